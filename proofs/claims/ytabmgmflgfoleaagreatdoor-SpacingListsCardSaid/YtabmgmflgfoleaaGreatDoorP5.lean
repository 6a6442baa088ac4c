/-
  Part 5: a symbolic executor over the model, contracts of functions and plain laws.
-/
import Derived.Test.YtabmgmflgfoleaaGreatDoorP4
import Derived.Lib.Bytealg
section
open Go Go.Proofs Go.Eng Go.Shelf IB Go.Lib Go.RowKit
namespace RB
set_option maxRecDepth 10000
set_option linter.unusedVariables false
set_option linter.unusedSimpArgs false
theorem aQo:Builder.X72 Tryz.prog RL.lC_ren where
 sizeBuilder:=by kernel_rfl
 liesBuilder:=by kernel_rfl
theorem ex160:Builder.Extra Tryz.prog RL.lS_ren where
 sizeBuilder:=by kernel_rfl
 liesBuilder:=by kernel_rfl
 t5:=Tryz.underlying5
 a5:=Tryz.isAgg5
 z5:=Tryz.sizeOf5
 v5:=Tryz.zeroValue5
 infoByte:=by kernel_rfl
 cellsByte:=by kernel_rfl
 sizeByte:=by kernel_rfl
 neB5:=by decide
def aAw (nm:Nat) (A:SV):Prop:=A= .val (.pointer none)∨A= .ptr nm 0
def c178:Con:=vA 257 fun args H K=>match args with
 | [.ptr nm 0]=>(match hget H nm with
  | .cells [A,x] e=>Need (aAw nm A∧e=224) <| K (.tup []) (hset H nm (.cells [.ptr nm 0,x] 224))
  | _=>False)
 | _=>False
theorem k178:aF Tryz.prog c178:=by
 refine oH (enters_of Tryz.func257 (by kernel_rfl) rfl) ?_
 intro args H K h
 split at h
 case h_2=>exact h.elim
 rename_i nm
 split at h
 case h_2=>exact h.elim
 rename_i A x e ho
 obtain ⟨⟨hA,rfl⟩,hK⟩:=h
 refine ⟨fun s H'=>s= .tup []∧H'=hset H nm (.cells [.ptr nm 0,x] 224),fun s H' e=>by rw[e.1,e.2];exact hK,?_⟩
 intro G loc ver w vs hC hI hr
 cases hr with
 | cons _ v1 _ vs1 h1 hr=>
 cases hr
 obtain ⟨b,hbk,rfl⟩:=kT hI h1 (by simp only[live,ho])
 have hn:=aG ho (by simp)
 obtain ⟨h0,b',vals,g1,g2,g3⟩:=hI.objs nm _ hn
 rw[hbk] at g1;cases g1
 replace g2:w.heap[b]? =some (.cells ⟨vals⟩ 224 (0,0)):=g2
 cases g3 with
 | cons _ u _ us r1 r2=>
 cases r2 with
 | cons _ u2 _ us2 r2 r3=>
 cases r3
 have hfin:∀w':World,w'.heap.size=w.heap.size→w'.os=w.os→w'.tape=w.tape→w'.output=w.output→(∀k,k≠b→w'.heap[k]? =w.heap[k]?)→w'.heap[b]? =some (.cells #[.pointer (some ⟨b,0,none⟩),u2] 224 (0,0))→Res G (envOf G H loc ver w) (fun s H'=>s= .tup []∧H'=hset H nm (.cells [.ptr nm 0,x] 224)) (.tuple #[]) w':=by
  intro w' q1 q2 q3 q4 q5 q6
  have hin:=hI.inPlace (w':=w') (o':=.cells [.ptr nm 0,x] 224) hn (b:=b) (by simp[Owns,hbk]) (fun _ h=>h) q1 q2 q3 q4 q5
   (fun hx'=>⟨h0,b,[.pointer (some ⟨b,0,none⟩),u2],hbk,q6,.cons _ _ _ _ (h1.ext hx') (.cons _ _ _ _ (r2.ext hx') .nil)⟩)
  exact ⟨_,_,_,_,⟨rfl,rfl⟩,hin.1,.tup [] [] .nil,hin.2⟩
 rcases hA with rfl | rfl
 ·cases r1
  refine (Any.Builder_copyCheck_fresh RL.lC aQo b w (by rw[Lib.cell_of_heap g2];rfl) (by unfold World.shape?;rw[g2];rfl) (Lib.frozen_of_heap g2 0)).mono ?_
  rintro e w' ⟨rfl,rfl⟩
  exact ⟨_,rfl,hfin _ (by simp[World.setCell]) rfl rfl rfl (fun k hk=>Below.heap_setCell w _ _ k hk) (by unfold World.setCell;rw[Array.getElem?_modify];simp[g2])⟩
 ·obtain ⟨b2,hb2,rfl⟩:=kT hI r1 (by simp only[live,ho])
  rw[hbk] at hb2;cases hb2
  refine (Any.Builder_copyCheck_used RL.lC aQo b w (by rw[Lib.cell_of_heap g2];rfl)).mono ?_
  rintro e w' ⟨rfl,rfl⟩
  exact ⟨_,rfl,hfin _ rfl rfl rfl rfl (fun _ _=>rfl) g2⟩
abbrev H3 (p:Prop) (hp:Decidable p) (a:List Int) (A:SV) (k:Nat) (bs:List Int):List HO:=[.cells [.bl p hp,Ls a] 150,.cells [A,.ref 2 k] 224,.vec k (.int .u8) bs 5]
theorem b157 (p:Prop) (hp:Decidable p) (a:List Int) (A:SV) (hA:aAw 1 A) (bs:List Int) (hl:bs.length≤1000000):
  aDl Tryz.prog [c178] {} Tryz.f231 [.ptr 1 0,.val (.int .u8 45)] (H3 p hp a A 1 bs) (fun s H'=>s= .val .nilIface∧H'=H3 p hp a (.ptr 1 0) 2 (List.append (α:=Int) bs [45])):=by
 (conv=>whnf)
 refine Need.mk rfl ?_
 (repeat'((conv=>whnf);first|refine Zn ?_|refine Zl ?_|fail))
 (conv=>whnf)
 refine ⟨_,_,⟨rfl,rfl⟩,rfl,rfl,rfl,rfl,?_⟩
 (repeat'(first|exact trivial|rfl|refine And.intro ?_ ?_|fail))
theorem b158 (p:Prop) (hp:Decidable p) (a:List Int) (A:SV) (hA:aAw 1 A) (k:Nat) (hk:k=1∨k=2) (bs:List Int) (s:List UInt8) (hl:bs.length+s.length≤1000000):
  aDl Tryz.prog [c178] {} Tryz.f232 [.ptr 1 0,S s] (H3 p hp a A k bs++ [.gone]) (fun r H'=>r= .tup [I s.length,.val .nilIface]∧H'=H3 p hp a (.ptr 1 0) (k+1) (List.append (α:=Int) bs (aP s))++ [.gone]):=by
 rcases hk with rfl | rfl
 ·(conv=>whnf)
  refine Need.mk rfl ?_
  (repeat'((conv=>whnf);first|refine Zg fun _=>?_|refine Zn ?_|fail))
  (conv=>whnf)
  refine ⟨_,_,⟨rfl,rfl⟩,rfl,?_,rfl,rfl,?_⟩
  all_goals (repeat'(first|exact trivial|rfl|refine And.intro ?_ ?_|fail))
 ·(conv=>whnf)
  refine Need.mk rfl ?_
  (repeat'((conv=>whnf);first|refine Zg fun _=>?_|refine Zn ?_|fail))
  (conv=>whnf)
  refine ⟨_,_,⟨rfl,rfl⟩,rfl,?_,rfl,rfl,?_⟩
  all_goals (repeat'(first|exact trivial|rfl|refine And.intro ?_ ?_|fail))
def c157:Con:=vA 231 fun args H K=>match args,H with
 | [.ptr 1 0,.val (.int .u8 45)],[.cells [.bl p hp,.seq (.int .i64) a] e1,.cells [A,.ref 2 1] e2,.vec 1 (.int .u8) bs e3]=>
  Need (aAw 1 A∧e1=150∧e2=224∧e3=5∧List.length (α:=Int) bs≤1000000) (K (.val .nilIface) (H3 p hp a (.ptr 1 0) 2 (List.append (α:=Int) bs [45])))
 | _,_=>False
theorem k157:aF Tryz.prog c157:=by
 refine oH (enters_of Tryz.func231 (by kernel_rfl) rfl) ?_
 intro args H K h
 split at h
 ·obtain ⟨⟨hA,rfl,rfl,rfl,hl⟩,hK⟩:=h
  refine ⟨_,?_,lW (Γ:=[c178]) (by simp[k178]) Tryz.func231 (by simp[Tryz.ntmps231]) (b157 _ _ _ _ hA _ hl)⟩
  rintro s H' ⟨rfl,rfl⟩
  exact hK
 ·exact h.elim
def c158:Con:=vA 232 fun args H K=>match args,H with
 | [.ptr 1 0,.str s],[.cells [.bl p hp,.seq (.int .i64) a] e1,.cells [A,.ref 2 k] e2,.vec k' (.int .u8) bs e3,.gone]=>
  Need (aAw 1 A∧k'=k∧(k=1∨k=2)∧e1=150∧e2=224∧e3=5∧List.length (α:=Int) bs+s.length≤1000000) (K (.tup [I s.length,.val .nilIface]) (H3 p hp a (.ptr 1 0) (k+1) (List.append (α:=Int) bs (aP s))++ [.gone]))
 | _,_=>False
theorem k158:aF Tryz.prog c158:=by
 refine oH (enters_of Tryz.func232 (by kernel_rfl) rfl) ?_
 intro args H K h
 split at h
 ·obtain ⟨⟨hA,rfl,hk,rfl,rfl,rfl,hl⟩,hK⟩:=h
  refine ⟨_,?_,lW (Γ:=[c178]) (by simp[k178]) Tryz.func232 (by simp[Tryz.ntmps232]) (b158 _ _ _ _ hA _ hk _ _ hl)⟩
  rintro s H' ⟨rfl,rfl⟩
  exact hK
 ·exact h.elim
set_option maxHeartbeats 2000000 in
set_option maxRecDepth 100000 in
theorem aLa {P:Program} {ρ:Ren} (L:Lays.n169 P ρ) (X:Builder.Extra P ρ) (b g cap:Nat) (p:Value) (cur:Array Value) (l:List UInt8) (w:World) (h0:l≠ []) (hbk:w.heap[b]? =some (.cells #[p,.slice (some ⟨g,0,none⟩) l.length cap] (ρ.t 72) (0,0)))
  (hg:w.heap[g]? =some (.cells cur (ρ.t 5) (0,0))) (hnc:l.length≤cap) (hcm:cap≤maxLen) (hcs:cap≤cur.size) (hcell:∀(j:Nat) (x:UInt8),l[j]? =some x→cur[j]? =some (Value.int .u8 x.toNat)):
  Calls P (ρ.f 169) #[.pointer (some ⟨b,0,none⟩)] w fun e w'=>e= .returned (.string ⟨l.toArray⟩)∧w'=w.drew.freeze ⟨g,0,none⟩ l.length:=by
 have hl0:l.length≠0:=by simpa using h0
 have c1:w.drew.cell? ⟨b,1,none⟩=some (.slice (some ⟨g,0,none⟩) l.length cap):=by
  have:w.drew.heap[b]? =some (.cells #[p,.slice (some ⟨g,0,none⟩) l.length cap] (ρ.t 72) (0,0)):=hbk
  rw[Lib.cell_of_heap this];rfl
 have hSD:(Builtin.unsafeSliceData_ #[(ρ.t 37)] (ρ.t 127) #[.slice (some ⟨g,0,none⟩) l.length cap]).run P w.drew= .ok (.pointer (some ⟨g,0,none⟩)) w.drew:=
  Lib.run_unsafeSliceData_row _ _ _ _ _ _ (by omega)
 have hUS:(Builtin.unsafeString_ #[(ρ.t 127),(ρ.t 3)] (ρ.t 9) #[.pointer (some ⟨g,0,none⟩),.int .i64 l.length]).run P w.drew= .ok (.string ⟨l.toArray⟩) (w.drew.freeze ⟨g,0,none⟩ l.length):=by
  refine Lib.run_unsafeString_row w.drew (ρ.t 127) (ρ.t 3) (ρ.t 9) (ρ.t 5) L.t127 X.cellsByte g cur.size (by have hg':w.drew.heap[g]? =some (.cells cur (ρ.t 5) (0,0)):=hg;simp[World.shape?,hg']) l h0 (by omega) (by unfold maxLen at hcm;omega) ?_
  intro j x hx
  have hg':w.drew.heap[g]? =some (.cells cur (ρ.t 5) (0,0)):=hg
  rw[Addr.add_mid,Lib.cell_of_heap hg',Nat.zero_add]
  exact hcell j x hx
 have mixed:=L.mixed
 have t72:=L.t72;have a72:=L.a72;have z72:=L.z72;have v72:=L.v72;have u72:=run_underlying L.t72
 have t70:=L.t70;have a70:=L.a70;have z70:=L.z70;have v70:=L.v70;have u70:=run_underlying L.t70
 have t37:=L.t37;have a37:=L.a37;have z37:=L.z37;have v37:=L.v37;have u37:=run_underlying L.t37
 have t127:=L.t127;have a127:=L.a127;have z127:=L.z127;have v127:=L.v127;have u127:=run_underlying L.t127
 have t3:=L.t3;have a3:=L.a3;have z3:=L.z3;have v3:=L.v3;have u3:=run_underlying L.t3
 have t9:=L.t9;have a9:=L.a9;have z9:=L.z9;have v9:=L.v9;have u9:=run_underlying L.t9
 have t5:=X.t5;have a5:=X.a5;have z5:=X.z5;have v5:=X.v5;have u5:=run_underlying X.t5
 go_enter L.f169,Body.n169_ntmps ρ
 go_wp2
 go_region_o
 all_goals (go_wp2;go_ret;exact ⟨rfl,rfl⟩)
def ofI (bs:List Int):List UInt8:=bs.map fun n=>UInt8.ofNat n.toNat
theorem xW (l:List UInt8):ofI (aP l)=l:=by
 unfold ofI aP
 rw[List.map_map]
 conv=>rhs;rw[← List.map_id l]
 refine List.map_congr_left fun x _=>?_
 simp
def c160:Con:=vA 234 fun args H K=>match args with
 | [.ptr nm 0]=>(match hget H nm with
  | .cells [A,.ref nm2 k] e=>(match hget H nm2 with
   | .vec k' (.int .u8) bs e'=>Need (aAw nm A∧k'=k∧e=224∧e'=5∧0<List.length (α:=Int) bs∧nm≠nm2) (K (.str (ofI bs)) (hset H nm2 .dead))
   | _=>False)
  | _=>False)
 | _=>False
theorem k160:aF Tryz.prog c160:=by
 refine oH (enters_of Tryz.func234 (by kernel_rfl) rfl) ?_
 intro args H K h
 split at h
 case h_2=>exact h.elim
 rename_i nm
 split at h
 case h_2=>exact h.elim
 rename_i A nm2 k e ho
 split at h
 case h_2=>exact h.elim
 rename_i k' bs e' ho2
 obtain ⟨⟨hA,hkk,rfl,rfl,hpos,hne⟩,hK⟩:=h
 subst hkk
 refine ⟨fun s H'=>s= .str (ofI bs)∧H'=hset H nm2 .dead,fun s H' e=>by rw[e.1,e.2];exact hK,?_⟩
 intro G loc ver w vs hC hI hr
 cases hr with
 | cons _ v1 _ vs1 h1 hr=>
 cases hr
 obtain ⟨b,hbk,rfl⟩:=kT hI h1 (by simp only[live,ho])
 have hn:=aG ho (by simp)
 have hn2:=aG ho2 (by simp)
 obtain ⟨h0,b',vals,g1,g2,g3⟩:=hI.objs nm _ hn
 rw[hbk] at g1;cases g1
 replace g2:w.heap[b]? =some (.cells ⟨vals⟩ 224 (0,0)):=g2
 cases g3 with
 | cons _ u _ us r1 r2=>
 cases r2 with
 | cons _ u2 _ us2 r2 r3=>
 cases r3
 obtain ⟨hu2,hlt2⟩:=iX hI r2 ho2
 subst hu2
 obtain ⟨q1,q2,hlen,hmax,vs2,hown,hel⟩:=hI.objs nm2 _ hn2
 have hlen':(loc nm2).len=List.length (α:=Int) bs:=hlen
 have hmax':(loc nm2).len≤140737488355328:=hmax
 have hel':∀i,i<(loc nm2).len→Reads w (okN G H loc w) (.int .u8) (List.getD (α:=Int) bs i 0) ((vs2.drop (i*1)).take 1):=hel
 rcases aR hown with ⟨_,_,_,e4⟩ | ⟨g,cur,e1,e2,e3,e4,e5,e6,e7⟩
 ·omega
 have e3':w.heap[g]? =some (.cells cur 5 (0,0)):=e3
 have hol:(ofI bs).length=List.length (α:=Int) bs:=by simp[ofI]
 have e7':cur.toList.take (List.length (α:=Int) bs)=vs2:=by rw[← hlen'];simpa [Ty.size] using e7
 have hcell:∀(j:Nat) (x:UInt8),(ofI bs)[j]? =some x→cur[j]? =some (Value.int .u8 x.toNat):=by
  intro j x hj
  have hjl:j<List.length (α:=Int) bs:=by rw[← hol];exact (List.getElem?_eq_some_iff.1 hj).1
  have hR:=hel' j (by omega)
  have hg1:List.getD (α:=Int) bs j 0=bs[j]:=by simp[List.getD_eq_getElem?_getD,hjl]
  have hx:x=UInt8.ofNat (bs[j]:Int).toNat:=by
   simp[ofI,hjl] at hj
   exact hj.symm
  obtain ⟨hR1,hR2⟩:=hR
  have hR2:(0:Int)≤List.getD (α:=Int) bs j 0∧List.getD (α:=Int) bs j 0≤255:=hR2
  have hjc:(cur.toList.take (List.length (α:=Int) bs))[j]? =some (Value.int .u8 (List.getD (α:=Int) bs j 0)):=by
   rw[e7']
   have h1:((vs2.drop (j*1)).take 1)[0]? =some (Value.int .u8 (List.getD (α:=Int) bs j 0)):=by rw[hR1];rfl
   simpa using h1
  rw[List.getElem?_take,if_pos hjl] at hjc
  rw[← Array.getElem?_toList,hjc,hx]
  rw[hg1] at hR2 ⊢
  congr 2
  simp only[UInt8.toNat_ofNat']
  omega
 have hhead:(loc nm2).head= .slice (some ⟨g,0,none⟩) (ofI bs).length (loc nm2).cap:=by simp[Core.head,e1,e2,hlen',hol]
 have hb3:w.heap[b]? =some (.cells #[u,.slice (some ⟨g,0,none⟩) (ofI bs).length (loc nm2).cap] 224 (0,0)):=by rw[← hhead];exact g2
 refine (aLa RL.lS ex160 b g (loc nm2).cap u cur (ofI bs) w (by intro e;rw[e] at hol;simp at hol;omega) hb3 e3' (by omega) e5 (by simpa [Ty.size] using e6) hcell).mono ?_
 rintro e w' ⟨rfl,rfl⟩
 refine ⟨_,rfl,?_⟩
 have hfr:∀c,c≠g→(w.drew.freeze ⟨g,0,none⟩ (ofI bs).length).heap[c]? =w.heap[c]? :=by
  intro c hc
  unfold World.freeze
  split
  ·rfl
  ·show (w.heap.modify _ _)[c]? = _
   rw[Array.getElem?_modify,if_neg (fun e=>hc e.symm)]
 have hsz:(w.drew.freeze ⟨g,0,none⟩ (ofI bs).length).heap.size=w.heap.size:=by
  unfold World.freeze
  split
  ·rfl
  ·simp
 have hin:=hI.inPlace (w':=w.drew.freeze ⟨g,0,none⟩ (ofI bs).length) (o':=.dead) hn2 (b:=g) (by simp[Owns,e1]) (fun _ h=>h.elim) hsz (by unfold World.freeze;split<;>rfl) (by unfold World.freeze;split<;>rfl) (by unfold World.freeze;split<;>rfl) hfr (fun _=>trivial)
 exact ⟨_,_,_,_,⟨rfl,rfl⟩,hin.1,.str _ (by show (ofI bs).length≤140737488355328;omega),hin.2⟩
theorem kM (a b:List UInt8):aP (a++b)=List.append (α:=Int) (aP a) (aP b):=by simp[aP]
theorem uD (p w r t:List UInt8):List.append (α:=Int) (List.append (α:=Int) (aP (p++w)) (aP r)) (aP t)=aP (p++(w++(r++t))):=by
 rw[← kM,← kM]
 simp only[List.append_assoc]
theorem aFk (p w t:List UInt8):List.append (α:=Int) (aP (p++w)) (aP t)=aP (p++(w++([]++t))):=by
 rw[← kM,List.append_assoc,List.nil_append]
def wrA:Nat→SV
 | 0=>.val (.pointer none)
 | _+1=>.ptr 1 0
theorem aJd {x:Int} (h:0≤x∧x<1000000000):(itoa x).length≤9:=by
 unfold itoa
 rw[if_neg (by omega)]
 exact gK 8 _ (by omega)
theorem gP {x:Int}:0<(itoa x).length:=by
 cases h:itoa x with
 | nil=>exact absurd h (by unfold itoa;split<;>simp[xK])
 | cons=>simp
theorem aJe (a:List Int) (m:Nat):0<(wrK a (m+1)).length:=by
 have:=gP (x:=a.getD (a.length-1-m) 0)
 show 0<(wrK a m++((if 0<m then List.replicate (9-(itoa (a.getD (a.length-1-m) 0)).length) 48 else [])++itoa (a.getD (a.length-1-m) 0))).length
 simp only[List.length_append];omega
theorem uT {a:List Int} (h:InB B9 a):∀i,(wrK a i).length≤9*i
 | 0=>Nat.le_refl _
 | i+1=>by
  have h1:=uT h i
  have h2:=aJd (get9 h (a.length-1-i))
  show (wrK a i++((if 0<i then List.replicate (9-(itoa (a.getD (a.length-1-i) 0)).length) 48 else [])++itoa (a.getD (a.length-1-i) 0))).length≤9*(i+1)
  by_cases h0:0<i
  ·rw[if_pos h0];simp only[List.length_append,List.length_replicate];omega
  ·rw[if_neg h0];simp only[List.length_append,List.length_nil];omega
theorem b128 (p:Prop) (hp:Decidable p) (a:List Int) (h:InB B9 a∧a.length≤200):body Tryz.prog [c157,c158,c160,c61,c159,c135,c166] { asks:=[(0,[2])] } true Tryz.f193 [.agg [.bl p hp,Ls a]] (S (if a= [] then [48] else (if p then [45] else [])++wrK a a.length)):=by
 (repeat'((conv=>whnf);first|refine Zg fun _=>?_|fail))
 (refine Br.mk (fun _=>?_) (fun _=>?_))
 ·rename_i hz
  have e:a= []:=List.eq_nil_of_length_eq_zero (by omega)
  skip
  (conv=>whnf)
  skip
  rw[if_pos e]
 ·rename_i hz
  skip
  refine Own.r ?_
  (conv=>whnf)
  refine ⟨1,.int .u8,5,?_⟩
  skip
  (refine Br.mk (fun _=>?_) (fun _=>?_))
  ·rename_i hp'
   skip
   (conv=>whnf)
   refine Need.mk ⟨.inl rfl,rfl,rfl,rfl,Nat.zero_le _⟩ ?_
   skip
   (conv=>whnf)
   refine Ask.mk ⟨{ X:=Nat,pre:=fun i=>i≤a.length,mod:=fun i _=>[],heap:=fun i H=>[hget H 0,.cells [.ptr 1 0,.ref 2 1] 224,.vec 1 (.int .u8) (aP ([45]++wrK a i)) 5],mu:=fun i=>i,objs:=[2] },rfl,?_⟩
   (repeat'((conv=>whnf);first|refine Zn ?_|fail))
   refine ⟨⟨(0:Nat),rfl,Nat.zero_le _,?_⟩,fun (i:Nat) hi (hlt:i<a.length)=>?_,fun (i:Nat) hi (he:i=a.length)=>?_⟩
   ·(repeat'(first|exact trivial|rfl|exact Nat.one_pos|refine And.intro ?_ ?_|fail))
   ·have hx:=aJd (get9 h.1 (a.length-1-i))
    have hb:([45]++wrK a i).length≤1+9*i:=by have:=uT h.1 i;simp only[List.length_append,List.length_cons,List.length_nil];omega
    rw[← bT] at hb
    have h2:=h.2
    have hst:wrK a (i+1)=wrK a i++((if 0<i then List.replicate (9-(itoa (a.getD (a.length-1-i) 0)).length) 48 else [])++itoa (a.getD (a.length-1-i) 0)):=rfl
    show hnfL (itB a i) _
    (repeat'((conv=>whnf);first|refine Zg fun _=>?_|refine Zn ?_|fail))
    (refine Br.mk (fun _=>?_) (fun _=>?_))
    ·rw[if_pos (by omega)] at hst
     (repeat'((conv=>whnf);first|refine Zg fun _=>?_|refine Zn ?_|fail))
     refine Need.mk ⟨.inr rfl,rfl,.inl rfl,rfl,rfl,rfl,?_⟩ ?_
     ·show _+(List.replicate (9-((itoa (a.getD (a.length-1-i) 0)).length:Int)).toNat 48).length≤1000000
      rw[List.length_replicate];omega
     skip
     refine Need.mk ⟨.inr rfl,rfl,.inr rfl,rfl,rfl,rfl,?_⟩ ?_
     ·show (List.append (α:=Int) _ (aP (List.replicate (9-((itoa (a.getD (a.length-1-i) 0)).length:Int)).toNat 48))).length+ _≤1000000
      show (_++ _:List Int).length+ _≤ _
      rw[List.length_append,bT (List.replicate _ _),List.length_replicate];omega
     skip
     refine ⟨(i+1:Nat),rfl,hlt,?_⟩
     (repeat'(first|exact trivial|rfl|exact Nat.one_pos|refine And.intro ?_ ?_|fail))
     rw[hst,show (9-((itoa (a.getD (a.length-1-i) 0)).length:Int)).toNat=9-(itoa (a.getD (a.length-1-i) 0)).length by omega]
     exact uD [45] _ _ _
    ·rw[if_neg (by omega)] at hst
     skip
     refine Need.mk ⟨.inr rfl,rfl,.inl rfl,rfl,rfl,rfl,by omega⟩ ?_
     skip
     refine ⟨(i+1:Nat),rfl,hlt,?_⟩
     (repeat'(first|exact trivial|rfl|exact Nat.one_pos|refine And.intro ?_ ?_|fail))
     rw[hst]
     exact aFk [45] _ _
   ·subst he
    have hpos:0<(aP ([45]++wrK a a.length)).length:=by
     rw[bT]
     obtain ⟨m,hm⟩:∃m,a.length=m+1:=⟨a.length-1,by omega⟩
     have:=aJe a m
     rw[hm,List.length_append];omega
    skip
    refine Need.mk ⟨.inr rfl,rfl,rfl,rfl,hpos,by show (1:Nat)≠2;decide⟩ ?_
    skip
    (conv=>whnf)
    skip
    rw[if_neg (by intro e;rw[e] at hz;exact hz rfl),if_pos hp',xW]
  ·rename_i hp'
   skip
   refine Ask.mk ⟨{ X:=Nat,pre:=fun i=>i≤a.length,mod:=fun i _=>[],heap:=fun i H=>[hget H 0,.cells [wrA i,.ref 2 1] 224,.vec 1 (.int .u8) (aP ([]++wrK a i)) 5],mu:=fun i=>i,objs:=[2] },rfl,?_⟩
   (repeat'((conv=>whnf);first|refine Zn ?_|fail))
   refine ⟨⟨(0:Nat),rfl,Nat.zero_le _,?_⟩,fun (i:Nat) hi (hlt:i<a.length)=>?_,fun (i:Nat) hi (he:i=a.length)=>?_⟩
   ·(repeat'(first|exact trivial|rfl|exact Nat.one_pos|refine And.intro ?_ ?_|fail))
   ·have h2:=h.2
    rcases i with _ | k
    ·have hx:=aJd (get9 h.1 (a.length-1-(0)))
     have hb:([]++wrK a (0)).length≤1+9*(0):=by have:=uT h.1 (0);simp only[List.length_append,List.length_nil];omega
     rw[← bT] at hb
     have hst:wrK a (0+1)=wrK a (0)++((if 0<(0) then List.replicate (9-(itoa (a.getD (a.length-1-(0)) 0)).length) 48 else [])++itoa (a.getD (a.length-1-(0)) 0)):=rfl
     show hnfL (itB a (0)) _
     (repeat'((conv=>whnf);first|refine Zg fun _=>?_|refine Zn ?_|fail))
     (refine Br.mk (fun _=>?_) (fun _=>?_))
     ·exfalso;omega
     ·rw[if_neg (by omega)] at hst
      skip
      refine Need.mk ⟨.inl rfl,rfl,.inl rfl,rfl,rfl,rfl,by omega⟩ ?_
      skip
      refine ⟨(0+1:Nat),rfl,hlt,?_⟩
      (repeat'(first|exact trivial|rfl|exact Nat.one_pos|refine And.intro ?_ ?_|fail))
    ·have hx:=aJd (get9 h.1 (a.length-1-(k+1)))
     have hb:([]++wrK a (k+1)).length≤1+9*(k+1):=by have:=uT h.1 (k+1);simp only[List.length_append,List.length_nil];omega
     rw[← bT] at hb
     have hst:wrK a (k+1+1)=wrK a (k+1)++((if 0<(k+1) then List.replicate (9-(itoa (a.getD (a.length-1-(k+1)) 0)).length) 48 else [])++itoa (a.getD (a.length-1-(k+1)) 0)):=rfl
     show hnfL (itB a (k+1)) _
     (repeat'((conv=>whnf);first|refine Zg fun _=>?_|refine Zn ?_|fail))
     (refine Br.mk (fun _=>?_) (fun _=>?_))
     ·rw[if_pos (by omega)] at hst
      (repeat'((conv=>whnf);first|refine Zg fun _=>?_|refine Zn ?_|fail))
      refine Need.mk ⟨.inr rfl,rfl,.inl rfl,rfl,rfl,rfl,?_⟩ ?_
      ·show _+(List.replicate (9-((itoa (a.getD (a.length-1-(k+1)) 0)).length:Int)).toNat 48).length≤1000000
       rw[List.length_replicate];omega
      skip
      refine Need.mk ⟨.inr rfl,rfl,.inr rfl,rfl,rfl,rfl,?_⟩ ?_
      ·show (List.append (α:=Int) _ (aP (List.replicate (9-((itoa (a.getD (a.length-1-(k+1)) 0)).length:Int)).toNat 48))).length+ _≤1000000
       show (_++ _:List Int).length+ _≤ _
       rw[List.length_append,bT (List.replicate _ _),List.length_replicate];omega
      skip
      refine ⟨(k+1+1:Nat),rfl,hlt,?_⟩
      (repeat'(first|exact trivial|rfl|exact Nat.one_pos|refine And.intro ?_ ?_|fail))
      rw[hst,show (9-((itoa (a.getD (a.length-1-(k+1)) 0)).length:Int)).toNat=9-(itoa (a.getD (a.length-1-(k+1)) 0)).length by omega]
      exact uD [] _ _ _
     ·exfalso;omega
   ·obtain ⟨m,rfl⟩:∃m,i=m+1:=⟨i-1,by omega⟩
    have hpos:0<(aP ([]++wrK a (m+1))).length:=by
     rw[bT]
     exact aJe a m
    skip
    refine Need.mk ⟨.inr rfl,rfl,rfl,rfl,hpos,by show (1:Nat)≠2;decide⟩ ?_
    skip
    (conv=>whnf)
    skip
    rw[if_neg (by intro e;rw[e] at hz;exact hz rfl),if_neg hp',xW,he]
def uE (a:List Int):Prop:=a=aB B9 (valB B9 a).toNat∧a.length≤200
theorem cY {m:Nat} (h:m<B9^200):uE (aB B9 m):=by
 refine ⟨by rw[cP (by decide),Int.toNat_natCast],?_⟩
 rcases Nat.eq_zero_or_pos m with rfl | hm
 ·rw[aV];exact Nat.zero_le _
 ·obtain ⟨h1,_,h3⟩:=dG (B:=B9) (by decide) hm
  have h1:B9^ ((aB B9 m).length-1)≤m:=by exact_mod_cast h1
  have:=(Nat.pow_lt_pow_iff_right (show 1<B9 by decide)).1 (Nat.lt_of_le_of_lt h1 h)
  omega
theorem aFl {a:List Int} (h:uE a):InB B9 a:=by rw[h.1];exact aQ (by decide) _
def sgP (p:Prop) [Decidable p] (n:Int):Int:=if p then -n else n
theorem aNq (p:Prop) [hp:Decidable p] {a:List Int} (h:uE a):(if a= [] then [48] else (if p then [45] else [])++wrK a a.length)=itoa (sgP p (valB B9 a)):=by
 have hz:=cP (B:=B9) (by decide) (valB B9 a).toNat
 rw[← h.1] at hz
 by_cases e:a= []
 ·rw[if_pos e]
  subst e
  have:sgP p (valB B9 [])=0:=by unfold sgP;split<;>rfl
  rw[this]
  unfold itoa
  rw[if_neg (by omega)]
  exact (cB (show 0<10 by omega)).symm
 ·rw[if_neg e]
  have hl:a.getLast e≠0:=by
   have:=mH (B:=B9) (by decide) (valB B9 a).toNat
   rw[← h.1] at this
   exact this e
  obtain ⟨m,hm⟩:∃m,a.length=m+1:=⟨a.length-1,by have:=List.length_pos_iff.2 e;omega⟩
  obtain ⟨h1,h2⟩:=aE5 (show InB (10^9) a from aFl h) e hl m (by omega)
  have e9:(10:Nat)^9=B9:=by decide
  rw[show a.length-1-m=0 by omega,List.drop_zero,e9] at h1 h2
  rw[hm,h2]
  have h3:=aQ6 (decide p) (valB B9 a).toNat
  unfold wrM at h3
  rw[if_neg (by omega)] at h3
  have h4:sgn (decide p) (valB B9 a).toNat=sgP p (valB B9 a):=by
   unfold sgn sgP
   by_cases hq:p
   ·rw[if_pos (by simp[hq]),if_pos hq];omega
   ·rw[if_neg (by simp[hq]),if_neg hq];omega
  rw[← h4,← h3]
  by_cases hq:p
  ·rw[if_pos hq,if_pos (by simp[hq])];rfl
  ·rw[if_neg hq,if_neg (by simp[hq])];rfl
def c128:Con:=aJ 193 true fun args K=>match args with
 | [.agg [.bl p hp,.seq (.int .i64) a]]=>Need (uE a) (K (S (itoa (@sgP p hp (valB B9 a)))))
 | _=>False
theorem k128:aF Tryz.prog c128:=by
 refine aC rfl (enters_of Tryz.func193 (by kernel_rfl) rfl) ?_
 intro args K h
 simp only[c128] at h
 split at h
 ·rename_i p hp a
  refine ⟨_,h.go,?_⟩
  rw[← aNq p h.ok]
  exact aA (Γ:=[c157,c158,c160,c61,c159,c135,c166]) (by simp[k157,k158,k160,k61,k159,k135,k166]) Tryz.func193 (by simp[Tryz.ntmps193]) rfl (b128 p hp a ⟨aFl h.ok,h.ok.2⟩)
 ·exact h.elim
def resI (n:Int):List UInt8 × Int:=if lim n then ([],4) else (itoa n,0)
theorem b96 (p:Prop) (hp:Decidable p) (a:List Int) (h:uE a):body Tryz.prog [c128,c88] {} true Tryz.f140 [.agg [.bl p hp,Ls a]] (.tup [S (resI (sgP p (valB B9 a))).1,I (resI (sgP p (valB B9 a))).2]):=by
 have ht:=congrArg List.length (bR (sgP p (valB B9 a)))
 unfold resI lim
 (repeat'((conv=>whnf);first|refine Zg fun _=>?_|refine Zn ?_|fail))
 (refine Br.mk (fun _=>?_) (fun _=>?_))
 ·rename_i hg
  rw[if_pos (by simp;omega)]
  skip
  (conv=>whnf)
  (repeat'(first|exact trivial|rfl|refine And.intro ?_ ?_|fail))
 ·rename_i hg
  rw[if_neg (by simp;omega)]
  skip
  (conv=>whnf)
  (repeat'(first|exact trivial|rfl|refine And.intro ?_ ?_|fail))
def c96:Con:=aJ 140 true fun args K=>match args with
 | [.agg [.bl p hp,.seq (.int .i64) a]]=>Need (uE a) (K (.tup [S (resI (@sgP p hp (valB B9 a))).1,I (resI (@sgP p hp (valB B9 a))).2]))
 | _=>False
theorem k96:aF Tryz.prog c96:=by
 refine aC rfl (enters_of Tryz.func140 (by kernel_rfl) rfl) ?_
 intro args K h
 simp only[c96] at h
 split at h
 ·rename_i p hp a
  exact ⟨_,h.go,aA (Γ:=[c128,c88]) (by simp[k128,k88]) Tryz.func140 (by simp[Tryz.ntmps140]) rfl (b96 p hp a h.ok)⟩
 ·exact h.elim
def addP (p:Prop) (m:Nat) (q:Prop) (n:Nat):Prop:=(((p↔q)∨n≤m)∧p)∨(¬((p↔q)∨n≤m)∧q)
instance (p:Prop) [Decidable p] (m:Nat) (q:Prop) [Decidable q] (n:Nat):Decidable (addP p m q n):=by unfold addP;infer_instance
def addN (p:Prop) [Decidable p] (m:Nat) (q:Prop) [Decidable q] (n:Nat):Nat:=if p↔q then m+n else if n≤m then m-n else n-m
theorem aCw (p:Prop) [Decidable p] (m:Nat) (q:Prop) [Decidable q] (n:Nat):sgP (addP p m q n) (addN p m q n)=sgP p m+sgP q n:=by
 unfold sgP addP addN
 by_cases hp:p<;>by_cases hq:q<;>by_cases h:n≤m<;>simp[hp,hq,h]<;>omega
theorem aNr {p:Prop} [Decidable p] {m:Nat} {q:Prop} [Decidable q] {n:Nat} (hm:m<B9^100) (hn:n<B9^100):addN p m q n<B9^200:=by
 have h:B9^100+B9^100≤B9^200:=by
  rw[← Nat.two_mul]
  exact Nat.le_trans (Nat.mul_le_mul_right _ (show 2≤B9 by decide)) (by rw[← Nat.pow_succ'];exact Nat.pow_le_pow_right (by decide) (by omega))
 unfold addN
 split
 ·omega
 ·split<;>omega
theorem fO {m k:Nat} (h:m<B9^k):(aB B9 m).length≤k:=by
 rcases Nat.eq_zero_or_pos m with rfl | hm
 ·rw[aV];exact Nat.zero_le _
 ·obtain ⟨h1,_,h3⟩:=dG (B:=B9) (by decide) hm
  have h1:B9^ ((aB B9 m).length-1)≤m:=by exact_mod_cast h1
  have:=(Nat.pow_lt_pow_iff_right (show 1<B9 by decide)).1 (Nat.lt_of_le_of_lt h1 h)
  omega
theorem v9 (m:Nat):valB B9 (aB B9 m)=m:=cP (by decide) m
theorem b97 (p:Prop) (hp:Decidable p) (m:Nat) (q:Prop) (hq:Decidable q) (n:Nat) (hm:m<B9^100) (hn:n<B9^100):
  body Tryz.prog [c107,c129] {} false Tryz.f141 [.agg [.bl p hp,Ls (aB B9 m)],.agg [.bl q hq,Ls (aB B9 n)]] (.agg [.bl (addP p m q n) inferInstance,Ls (aB B9 (addN p m q n))]):=by
 have im:InB B9 (aB B9 m):=aQ (by decide) m
 have jn:InB B9 (aB B9 n):=aQ (by decide) n
 have lm:=fO hm
 have ln:=fO hn
 have hc:=xT m n
 have vm:=v9 m
 have vn:=v9 n
 (repeat'((conv=>whnf);first|refine Zl ?_|fail))
 (refine Br.mk (fun _=>?_) (fun _=>?_))
 ·rename_i h
  have e1:p↔addP p m q n:=by unfold addP;simp[h]
  have e2:(valB B9 (aB B9 m)+valB B9 (aB B9 n)).toNat=addN p m q n:=by unfold addN;rw[if_pos h];omega
  (repeat'((conv=>whnf);first|(apply Pin.mk;apply Exists.intro)|apply Pinned.mk rfl rfl|fail))
  refine Need.mk ⟨im,jn,by omega,by omega⟩ ?_
  (repeat'((conv=>whnf);first|apply Pinned.mk rfl rfl|fail))
  (conv=>whnf)
  (repeat'(first|exact trivial|refine And.intro ?_ ?_|fail))
  ·exact e1
  ·skip
   exact congrArg (aB B9) e2
 ·rename_i h
  skip
  (conv=>whnf)
  refine Need.mk ⟨im,jn⟩ ?_
  skip
  (refine Br.mk (fun _=>?_) (fun _=>?_))
  ·rename_i hg
   have hle:n≤m:=by omega
   have e1:p↔addP p m q n:=by unfold addP;simp[hle]
   have e2:(valB B9 (aB B9 m)-valB B9 (aB B9 n)).toNat=addN p m q n:=by unfold addN;rw[if_neg h,if_pos hle];omega
   (repeat'((conv=>whnf);first|(apply Pin.mk;apply Exists.intro)|apply Pinned.mk rfl rfl|fail))
   refine Need.mk ⟨im,jn,by omega,by omega,by omega⟩ ?_
   (repeat'((conv=>whnf);first|apply Pinned.mk rfl rfl|fail))
   (conv=>whnf)
   (repeat'(first|exact trivial|refine And.intro ?_ ?_|fail))
   ·exact e1
   ·(conv=>whnf)
    exact congrArg (aB B9) e2
  ·rename_i hg
   have hle:¬n≤m:=by omega
   have e1:q↔addP p m q n:=by unfold addP;simp[hle,h]
   have e2:(valB B9 (aB B9 n)-valB B9 (aB B9 m)).toNat=addN p m q n:=by unfold addN;rw[if_neg h,if_neg hle];omega
   (repeat'((conv=>whnf);first|(apply Pin.mk;apply Exists.intro)|apply Pinned.mk rfl rfl|fail))
   refine Need.mk ⟨jn,im,by omega,by omega,by omega⟩ ?_
   (repeat'((conv=>whnf);first|apply Pinned.mk rfl rfl|fail))
   (conv=>whnf)
   (repeat'(first|exact trivial|refine And.intro ?_ ?_|fail))
   ·exact e1
   ·(conv=>whnf)
    exact congrArg (aB B9) e2
def qF (a:List Int):Prop:=a=aB B9 (valB B9 a).toNat∧(valB B9 a).toNat<B9^100
def c97:Con:=aJ 141 false fun args K=>match args with
 | [.agg [.bl p hp,.seq (.int .i64) a],.agg [.bl q hq,.seq (.int .i64) b]]=>Need (qF a∧qF b) (K (.agg [.bl (addP p (valB B9 a).toNat q (valB B9 b).toNat) inferInstance,Ls (aB B9 (@addN p hp (valB B9 a).toNat q hq (valB B9 b).toNat))]))
 | _=>False
theorem k97:aF Tryz.prog c97:=by
 refine aC rfl (enters_of Tryz.func141 (by kernel_rfl) rfl) ?_
 intro args K h
 simp only[c97] at h
 split at h
 ·rename_i p hp a q hq b
  refine ⟨_,h.go,?_⟩
  obtain ⟨⟨ha,hm⟩,hb,hn⟩:=h.ok
  have ht:=aA (Γ:=[c107,c129]) (by simp[k107,k129]) Tryz.func141 (by simp[Tryz.ntmps141]) rfl (b97 p hp (valB B9 a).toNat q hq (valB B9 b).toNat hm hn)
  rw[← ha,← hb] at ht
  exact ht
 ·exact h.elim
theorem aPr {l k:Nat} (h:l≤9*k):(10:Nat)^l≤B9^k:=by
 have e9:(10:Nat)^9=B9:=by decide
 rw[← e9,← Nat.pow_mul]
 exact Nat.pow_le_pow_right (by omega) h
theorem iM {s:List UInt8} (h:form s) (hl:(digs s).length≤300):aD (digs s)<B9^34:=
 Nat.lt_of_lt_of_le (cD (digs s) h.2.2) (aPr (by omega))
theorem cU {s:List UInt8}:valI s=sgP (s.headD 0=45) (aD (digs s):Nat):=by
 unfold valI sgP digs
 split
 ·rfl
 ·rfl
theorem bN {s:List UInt8} (h:form s) (hl:(digs s).length≤300):qF (aB B9 (aD (digs s))):=by
 refine ⟨by rw[v9,Int.toNat_natCast],?_⟩
 rw[v9,Int.toNat_natCast]
 exact Nat.lt_of_lt_of_le (iM h hl) (Nat.pow_le_pow_right (by decide) (by omega))
noncomputable def bB (a b:List UInt8) (r:List UInt8 × Int):List UInt8 × Int:=if chk2 a b≠0 then ([],chk2 a b) else r
theorem fG {a b:List UInt8} (h:¬chk2 a b≠0):chkI a=0∧chkI b=0:=by
 unfold chk2 at h
 split at h
 ·rename_i h1;exact absurd h1 h
 ·rename_i h1;exact ⟨Classical.not_not.1 h1,Classical.not_not.1 h⟩
theorem dZ {n:Int} (h:n.natAbs<10^40):resI n=(itoa n,0):=by
 unfold resI lim
 rw[if_neg]
 have:=gK 39 n.natAbs h
 simp;omega
theorem aRo (a b:List UInt8):sgP (addP (a.headD 0=45) (valB B9 (aB B9 (aD (digs a)))).toNat (b.headD 0=45) (valB B9 (aB B9 (aD (digs b)))).toNat) (valB B9 (aB B9 (addN (a.headD 0=45) (valB B9 (aB B9 (aD (digs a)))).toNat (b.headD 0=45) (valB B9 (aB B9 (aD (digs b)))).toNat)))=valI a+valI b:=by
 simp only[v9,Int.toNat_natCast,aCw,cU]
theorem b55 (a b:List UInt8):body Tryz.prog [c94,c95,c61,c98,c97,c96] {} true Tryz.f156 [S a,S b] (.tup [S (bB a b (resI (valI a+valI b))).1,I (bB a b (resI (valI a+valI b))).2]):=by
 unfold bB
 skip
 (refine Br.mk (fun _=>?_) (fun _=>?_))
 ·rename_i h
  rw[if_pos h]
  skip
  (conv=>whnf)
  (repeat'(first|exact trivial|rfl|refine And.intro ?_ ?_|fail))
 ·rename_i h
  rw[if_neg h]
  obtain ⟨ha,hb⟩:=fG h
  obtain ⟨fa,la⟩:=bE ha
  obtain ⟨fb,lb⟩:=bE hb
  skip
  refine Need.mk ⟨rfl,fa,fb⟩ ?_
  skip
  (refine Br.mk (fun _=>?_) (fun _=>?_))
  ·rename_i hs
   have h1:=dO fa hs.1
   have h2:=dO fb hs.2
   rw[dZ (by omega)]
   (repeat'((conv=>whnf);first|refine Zn ?_|fail))
   (conv=>whnf)
   (repeat'(first|exact trivial|rfl|refine And.intro ?_ ?_|fail))
  ·rename_i hs
   skip
   have hv:=aRo a b
   refine Need.mk ⟨fa,by omega⟩ ?_
   skip
   refine Need.mk ⟨fb,by omega⟩ ?_
   skip
   refine Need.mk ⟨bN fa la,bN fb lb⟩ ?_
   skip
   refine Need.mk (cY (aNr (bN fa la).2 (bN fb lb).2)) ?_
   skip
   (conv=>whnf)
   (repeat'(first|exact trivial|rfl|refine And.intro ?_ ?_|fail))
   ·exact congrArg (fun z=>(resI z).1) hv
   ·exact congrArg (fun z=>(resI z).2) hv
theorem aPs (p:Prop) [Decidable p] (n:Int):sgP (¬p) n= -sgP p n:=by unfold sgP;by_cases h:p<;>simp[h]
theorem aNs (a b:List UInt8):sgP (addP (a.headD 0=45) (valB B9 (aB B9 (aD (digs a)))).toNat (¬b.headD 0=45) (valB B9 (aB B9 (aD (digs b)))).toNat) (valB B9 (aB B9 (addN (a.headD 0=45) (valB B9 (aB B9 (aD (digs a)))).toNat (¬b.headD 0=45) (valB B9 (aB B9 (aD (digs b)))).toNat)))=valI a-valI b:=by
 simp only[v9,Int.toNat_natCast,aCw,cU,aPs]
 omega
theorem b60 (a b:List UInt8):body Tryz.prog [c94,c95,c61,c98,c97,c96] {} true Tryz.f75 [S a,S b] (.tup [S (bB a b (resI (valI a-valI b))).1,I (bB a b (resI (valI a-valI b))).2]):=by
 unfold bB
 skip
 (refine Br.mk (fun _=>?_) (fun _=>?_))
 ·rename_i h
  rw[if_pos h]
  skip
  (conv=>whnf)
  (repeat'(first|exact trivial|rfl|refine And.intro ?_ ?_|fail))
 ·rename_i h
  rw[if_neg h]
  obtain ⟨ha,hb⟩:=fG h
  obtain ⟨fa,la⟩:=bE ha
  obtain ⟨fb,lb⟩:=bE hb
  skip
  refine Need.mk ⟨rfl,fa,fb⟩ ?_
  skip
  (refine Br.mk (fun _=>?_) (fun _=>?_))
  ·rename_i hs
   have h1:=dO fa hs.1
   have h2:=dO fb hs.2
   rw[dZ (by omega)]
   (repeat'((conv=>whnf);first|refine Zn ?_|fail))
   (conv=>whnf)
   (repeat'(first|exact trivial|rfl|refine And.intro ?_ ?_|fail))
  ·rename_i hs
   have hv:=aNs a b
   skip
   refine Need.mk ⟨fb,by omega⟩ ?_
   (repeat'((conv=>whnf);first|(apply Pin.mk;apply Exists.intro)|apply Pinned.mk rfl rfl|refine Zl ?_|fail))
   refine Need.mk ⟨fa,by omega⟩ ?_
   (repeat'((conv=>whnf);first|(apply Pin.mk;apply Exists.intro)|apply Pinned.mk rfl rfl|fail))
   refine Need.mk ⟨bN fa la,bN fb lb⟩ ?_
   (repeat'((conv=>whnf);first|(apply Pin.mk;apply Exists.intro)|apply Pinned.mk rfl rfl|fail))
   refine Need.mk (cY (aNr (bN fa la).2 (bN fb lb).2)) ?_
   (repeat'((conv=>whnf);first|(apply Pin.mk;apply Exists.intro)|apply Pinned.mk rfl rfl|fail))
   (conv=>whnf)
   (repeat'(first|exact trivial|rfl|refine And.intro ?_ ?_|fail))
   ·exact congrArg (fun z=>(resI z).1) hv
   ·exact congrArg (fun z=>(resI z).2) hv
theorem aFe {P:Program} {f:FuncId} {args:List SV} {t:Ty} {ys:List t.T} {e:TypeId} (h2:t.flat=true) (h:OTri P f args (.ref 0 1) t ys e):Tri P true f args (.seq t ys):=by
 intro ok w vs hg hok hr
 refine (h ok w vs hg hok hr).mono ?_
 rintro en w' ⟨v,L',rfl,hb,hL,⟨hlen,hmax,us,hown,hel⟩,hrel⟩
 refine ⟨v,rfl,hb,?_⟩
 cases hrel with
 | ref _ _ _ hn h0 hk hv=>
 have:=hv rfl
 subst this
 refine .seq t ys _ ?_
 rcases aR hown with ⟨e1,e2,e3,e4⟩ | ⟨g,cur,e1,e2,e3,e4,e5,e6,e7⟩
 ·exact ⟨none,0,0,by simp[Core.head,envO,e1,e2,e3],by omega,Nat.le_refl _,Nat.zero_le _,fun h=>absurd h (Nat.lt_irrefl _)⟩
 ·have hg1:w.heap.size≤g:=hL g (by simp[e1])
  have hg2:g<w'.heap.size:=(Array.getElem?_eq_some_iff.1 e3).1
  refine ⟨some ⟨g,0,none⟩,L'.len,L'.cap,by simp[Core.head,envO,e1],hlen,e4,hmax,fun h0=>⟨g,0,rfl,.inr ⟨hg1,hg2⟩,fun i hi=>⟨_,(hel i hi).length,?_,(hel i hi).flat h2⟩⟩⟩
  intro j v hj
  rw[List.getElem?_take] at hj
  split at hj
  ·rw[List.getElem?_drop,← e7,List.getElem?_take] at hj
   split at hj
   ·simp only[env0,World.cell?,e3]
    simpa using hj
   ·cases hj
  ·cases hj
def c99f:Con:=aJ 188 true fun args K=>match args with
 | [.seq (.int .i64) a,.seq (.int .i64) b]=>Need (InB B9 a∧InB B9 b∧a.length≤100000∧b.length≤100000) (K (Ls (aB B9 (valB B9 a*valB B9 b).toNat)))
 | _=>False
theorem k99f:aF Tryz.prog c99f:=by
 refine aC rfl (enters_of Tryz.func188 (by kernel_rfl) rfl) ?_
 intro args K h
 simp only[c99f] at h
 split at h
 ·rename_i a b
  exact ⟨_,h.go,aFe rfl (rA (Γ:=[c132,c131]) (by simp[k132,k131]) Tryz.func188 (by simp[Tryz.ntmps188]) rfl (b99 a b h.ok))⟩
 ·exact h.elim
theorem aI6 (p q:Prop) [Decidable p] [Decidable q] (m n:Int):sgP (¬(p↔q)) (m*n)=sgP p m*sgP q n:=by
 unfold sgP
 by_cases hp:p<;>by_cases hq:q<;>simp[hp,hq,Int.neg_mul,Int.mul_neg]
theorem aI7 {s:List UInt8} (h:form s):(valI s).natAbs<10^s.length:=by
 obtain ⟨h1,h2,h3⟩:=h
 have hb:=cD (digs s) h3
 have hp:(10:Nat)^ (digs s).length≤10^s.length:=Nat.pow_le_pow_right (by omega) (kB s).1
 have hv:valI s=aD (digs s)∨valI s= -(aD (digs s):Int):=by
  unfold valI digs
  split
  ·exact .inr rfl
  ·exact .inl rfl
 omega
theorem aAm {a b:List UInt8} (ha:form a) (hb:form b) (h:a.length+b.length≤18):(valI a*valI b).natAbs<1000000000000000000:=by
 have h1:=aI7 ha
 have h2:=aI7 hb
 rw[Int.natAbs_mul]
 have h3:(valI a).natAbs*(valI b).natAbs<10^a.length*10^b.length:=Nat.mul_lt_mul'' h1 h2
 rw[← Nat.pow_add] at h3
 exact Nat.lt_of_lt_of_le h3 (Nat.le_trans (Nat.pow_le_pow_right (by omega) h) (by decide))
theorem aQ9 (a b:List UInt8) (m:Nat) (hd:Decidable (¬(a.headD 0=45↔b.headD 0=45))) (hm:m=(valB B9 (aB B9 (aD (digs a)))*valB B9 (aB B9 (aD (digs b)))).toNat):sgP (¬(a.headD 0=45↔b.headD 0=45)) (valB B9 (aB B9 m))=valI a*valI b:=by
 subst hm
 have:hd=instDecidableNot:=Subsingleton.elim _ _
 subst this
 rw[v9,v9,v9,← Int.natCast_mul,Int.toNat_natCast,Int.natCast_mul,aI6,cU,cU]
theorem aK5 {a b:List UInt8} (fa:form a) (la:(digs a).length≤300) (fb:form b) (lb:(digs b).length≤300):uE (aB B9 (valB B9 (aB B9 (aD (digs a)))*valB B9 (aB B9 (aD (digs b)))).toNat):=by
 refine cY ?_
 rw[v9,v9,← Int.natCast_mul,Int.toNat_natCast]
 have h3:=Nat.mul_lt_mul'' (iM fa la) (iM fb lb)
 rw[← Nat.pow_add] at h3
 exact Nat.lt_of_lt_of_le h3 (Nat.pow_le_pow_right (by decide) (by omega))
theorem b58 (a b:List UInt8):body Tryz.prog [c94,c95,c61,c98,c99f,c96] {} true Tryz.f136 [S a,S b] (.tup [S (bB a b (resI (valI a*valI b))).1,I (bB a b (resI (valI a*valI b))).2]):=by
 unfold bB
 skip
 (refine Br.mk (fun _=>?_) (fun _=>?_))
 ·rename_i h
  rw[if_pos h]
  skip
  (conv=>whnf)
  (repeat'(first|exact trivial|rfl|refine And.intro ?_ ?_|fail))
 ·rename_i h
  rw[if_neg h]
  obtain ⟨ha,hb⟩:=fG h
  obtain ⟨fa,la⟩:=bE ha
  obtain ⟨fb,lb⟩:=bE hb
  (repeat'((conv=>whnf);first|refine Zg fun _=>?_|refine Zn ?_|fail))
  (refine Br.mk (fun _=>?_) (fun _=>?_))
  ·rename_i hs
   have hm:=aAm fa fb (by omega)
   skip
   refine Need.mk ⟨rfl,fa,fb⟩ ?_
   refine Br.mk (fun _=>?_) (fun hn=>absurd (show a.length≤18∧b.length≤18 by omega) hn)
   rw[dZ (by omega)]
   (repeat'((conv=>whnf);first|refine Zn ?_|fail))
   (conv=>whnf)
   (repeat'(first|exact trivial|rfl|refine And.intro ?_ ?_|fail))
  ·rename_i hs
   have hv:=fun hd=>aQ9 a b _ hd rfl
   skip
   refine Need.mk ⟨fa,by omega⟩ ?_
   skip
   refine Need.mk ⟨fb,by omega⟩ ?_
   have l1:=fO (iM fa la)
   have l2:=fO (iM fb lb)
   (repeat'((conv=>whnf);first|(apply Pin.mk;apply Exists.intro)|apply Pinned.mk rfl rfl|refine Zl ?_|fail))
   refine Need.mk ⟨aQ (by decide) _,aQ (by decide) _,by omega,by omega⟩ ?_
   (repeat'((conv=>whnf);first|(apply Pin.mk;apply Exists.intro)|apply Pinned.mk rfl rfl|fail))
   refine Need.mk (aK5 fa la fb lb) ?_
   (repeat'((conv=>whnf);first|(apply Pin.mk;apply Exists.intro)|apply Pinned.mk rfl rfl|fail))
   (conv=>whnf)
   (repeat'(first|exact trivial|rfl|refine And.intro ?_ ?_|fail))
   ·exact congrArg (fun z=>(resI z).1) (hv _)
   ·exact congrArg (fun z=>(resI z).2) (hv _)
def cmpI (x y:Int):Int:=if x<y then -1 else if x=y then 0 else 1
theorem b119 (x:Int):body Tryz.prog [] {} true Tryz.f174 [I x] (.val (.bool false)):=by
 skip
 (conv=>whnf)
 skip
 exact ⟨fun h=>absurd rfl h,fun h=>by cases h⟩
def c119:Con:=aJ 174 true fun args K=>match args with | [.val (.int .i64 x)]=>K (.val (.bool false)) | _=>False
theorem k119:aF Tryz.prog c119:=by
 refine aC rfl (enters_of Tryz.func174 (by kernel_rfl) rfl) ?_
 intro args K h
 simp only[c119] at h
 split at h
 ·rename_i x;exact ⟨_,h,aA (Γ:=[]) (by simp) Tryz.func174 (by simp[Tryz.ntmps174]) rfl (b119 x)⟩
 ·exact h.elim
theorem b76 (x y:Int):body Tryz.prog [c119] {} true Tryz.f116 [I x,I y] (I (cmpI x y)):=by
 unfold cmpI
 (repeat'((conv=>whnf);first|refine Zr (fun _=>?_) fun _=>?_|fail))
 all_goals (skip;(conv=>whnf);(repeat'(first|rfl|refine And.intro ?_ ?_|fail)))
 all_goals (repeat' split)
 all_goals omega
def c76:Con:=aJ 116 true fun args K=>match args with | [.val (.int .i64 x),.val (.int .i64 y)]=>K (I (cmpI x y)) | _=>False
theorem k76:aF Tryz.prog c76:=by
 refine aC rfl (enters_of Tryz.func116 (by kernel_rfl) rfl) ?_
 intro args K h
 simp only[c76] at h
 split at h
 ·rename_i x y;exact ⟨_,h,aA (Γ:=[c119]) (by simp[k119]) Tryz.func116 (by simp[Tryz.ntmps116]) rfl (b76 x y)⟩
 ·exact h.elim
noncomputable def aI8 (a b:List UInt8) (r:Int):Int × Int:=if chk2 a b≠0 then (0,chk2 a b) else (r,0)
theorem aRa (p:Prop) [Decidable p] (n:Nat) (x y:Int) (hv:sgP p (valB B9 (aB B9 n))=x-y):cmpI x y=if ((aB B9 n).length:Int)=0 then 0 else if p then -1 else 1:=by
 rw[v9] at hv
 have h0:((aB B9 n).length:Int)=0↔n=0:=by
  rw[← iC (B:=B9) (by decide),← List.length_eq_zero_iff];omega
 unfold sgP at hv
 unfold cmpI
 by_cases hn:n=0
 ·rw[if_pos (h0.2 hn)]
  subst hn
  have:x-y=0:=by rw[← hv];split<;>rfl
  rw[if_neg (by omega),if_pos (by omega)]
 ·rw[if_neg (fun h=>hn (h0.1 h))]
  by_cases hp:p
  ·rw[if_pos hp] at hv ⊢
   rw[if_pos (by omega)]
  ·rw[if_neg hp] at hv ⊢
   rw[if_neg (by omega),if_neg (by omega)]
theorem b77 (a b:List UInt8):body Tryz.prog [c94,c95,c98,c97,c76] {} true Tryz.f118 [S a,S b] (.tup [I (aI8 a b (cmpI (valI a) (valI b))).1,I (aI8 a b (cmpI (valI a) (valI b))).2]):=by
 unfold aI8
 skip
 (refine Br.mk (fun _=>?_) (fun _=>?_))
 ·rename_i h
  rw[if_pos h]
  skip
  (conv=>whnf)
  (repeat'(first|exact trivial|rfl|refine And.intro ?_ ?_|fail))
 ·rename_i h
  rw[if_neg h]
  obtain ⟨ha,hb⟩:=fG h
  obtain ⟨fa,la⟩:=bE ha
  obtain ⟨fb,lb⟩:=bE hb
  skip
  refine Need.mk ⟨rfl,fa,fb⟩ ?_
  skip
  (refine Br.mk (fun _=>?_) (fun _=>?_))
  ·skip
   (conv=>whnf)
   (repeat'(first|exact trivial|rfl|refine And.intro ?_ ?_|fail))
  ·have hv:=aNs a b
   skip
   refine Need.mk ⟨fa,by omega⟩ ?_
   skip
   refine Need.mk ⟨fb,by omega⟩ ?_
   (repeat'((conv=>whnf);first|refine Zl ?_|fail))
   refine Need.mk ⟨bN fa la,bN fb lb⟩ ?_
   have hc:=aRa _ _ _ _ hv
   (repeat'((conv=>whnf);first|refine Zg fun _=>?_|refine Zl ?_|fail))
   (refine Br.mk (fun _=>?_) (fun _=>?_))
   ·rename_i h0
    rw[if_pos h0] at hc
    skip
    (conv=>whnf)
    (repeat'(first|exact trivial|rfl|refine And.intro ?_ ?_|fail))
    exact hc.symm
   ·rename_i h0
    rw[if_neg h0] at hc
    skip
    (refine Br.mk (fun _=>?_) (fun _=>?_))
    ·rename_i h1
     rw[if_pos h1] at hc
     skip
     (conv=>whnf)
     (repeat'(first|exact trivial|rfl|refine And.intro ?_ ?_|fail))
     exact hc.symm
    ·rename_i h1
     rw[if_neg h1] at hc
     skip
     (conv=>whnf)
     (repeat'(first|exact trivial|rfl|refine And.intro ?_ ?_|fail))
     exact hc.symm
theorem w135 (a:Option Addr) (n c:Nat) (w:World):Calls Tryz.prog 217 #[.slice a n c] w fun e w'=>e= .returned (.func (.func 239) #[] #[.pointer (some ⟨w.heap.size,0,none⟩)])∧w'=w.alloc (.cells #[.slice a n c] 60):=by
 go_enter Tryz.func217,Tryz.ntmps217
 go_wp2
 go_ret
 exact ⟨rfl,rfl⟩
def aNc:Con:=vA 217 fun args H K=>match args with
 | [.ref nm k]=>(match hget H nm with
  | .vec j t xs e=>Need (j=k) <| K (.clo 239 [] [.lelem [.ref nm k] 0]) H
  | _=>False)
 | _=>False
theorem k135h:aF Tryz.prog aNc:=by
 refine oH (enters_of Tryz.func217 (by kernel_rfl) rfl) ?_
 intro args H K h
 split at h
 case h_2=>exact h.elim
 rename_i nm k
 split at h
 case h_2=>exact h.elim
 rename_i j t xs e ho
 obtain ⟨hjk,hK⟩:=h
 subst hjk
 refine ⟨fun s H'=>s= .clo 239 [] [.lelem [.ref nm j] 0]∧H'=H,fun s H' e=>by rw[e.1,e.2];exact hK,?_⟩
 intro G loc ver w vs hC hI hr
 cases hr with
 | cons _ v1 _ vs1 h1 hr=>
 cases hr
 obtain ⟨hv,_⟩:=iX hI h1 ho
 have hw:=w135 ((loc nm).blk.map fun p=>⟨p.1,p.2,none⟩) (loc nm).len (loc nm).cap w
 rw[show (Value.slice ((loc nm).blk.map fun p=>⟨p.1,p.2,none⟩) (loc nm).len (loc nm).cap)=v1 from hv.symm] at hw
 refine hw.mono ?_
 rintro en w' ⟨rfl,rfl⟩
 obtain ⟨hI',hx⟩:=hI.grow (w':=w.alloc (.cells #[v1] 60)) ((Below.refl _ _).alloc (Nat.le_refl _) _)
 refine ⟨_,rfl,_,_,_,_,⟨rfl,rfl⟩,hI',.clo _ _ _ _ _ .nil (.cons _ _ _ _ ?_ .nil),hx⟩
 refine .lelem _ 0 w.heap.size 0 [v1] (.cons _ _ _ _ (h1.ext hx) .nil) ?_ ?_
 ·refine ⟨.inr (.inr hI.size),by simp,?_⟩
  rintro ⟨k,o,hk,hb⟩
  have:=(hI.objs k _ hk).block (b:=w.heap.size) hb
  exact absurd this (by simp[envOf])
 ·intro i u hi
  cases i with
  | zero=>
   simp at hi;subst hi
   have:=eD w (.cells #[v1] 60)
   show (w.alloc (.cells #[v1] 60)).cell? ⟨w.heap.size,0+0,none⟩=some v1
   unfold World.cell?
   simp only[this]
   rfl
  | succ i=>simp at hi
abbrev itS (n k:Nat):List SV:=[I ((n-1-k:Nat)),.any]
theorem b166s (n:Nat):vN Tryz.prog [] { asks:=[(0,[])] } Tryz.f239 [.lelem [.sft none] 0] n (itS n):=by
 (repeat'((conv=>whnf);first|refine Zg fun _=>?_|refine Zn ?_|fail))
 refine Ask.mk ⟨{ X:=Nat,pre:=fun i=>i≤n,mod:=fun i _=>[(3,I ((n:Int)-1-i))],heap:=fun i _=>[.yst (some i) n (itS n)],mu:=fun i=>n-i },rfl,?_⟩
 (repeat'((conv=>whnf);first|refine Zn ?_|fail))
 refine ⟨⟨(0:Nat),Nat.zero_le _,by (repeat'(first|exact trivial|rfl|refine And.intro ?_ ?_|omega|fail))⟩,fun (i:Nat) (hi:i≤n)=>?_⟩
 skip
 (refine Br.mk (fun _=>?_) (fun _=>?_))
 ·have hlt:i<n:=by omega
  have e:((n:Int)-1-i)=((n-1-i:Nat):Int):=by omega
  (repeat'((conv=>whnf);first|refine Zn ?_|fail))
  refine cF (n-1-i) (by omega) ?_
  (repeat'((conv=>whnf);first|refine Zn ?_|fail))
  refine Need.mk (by (repeat'(first|exact trivial|rfl|refine And.intro ?_ ?_|fail));exact e) ?_
  refine Two.mk ?_ ?_
  ·(repeat'((conv=>whnf);first|refine Zn ?_|fail))
   refine ⟨(i+1:Nat),by show n-(i+1)<n-i;omega,hlt,?_⟩
   (repeat'(first|exact trivial|rfl|refine And.intro ?_ ?_|omega|fail))
  ·(conv=>whnf)
   trivial
 ·(conv=>whnf)
  omega
def aI9:Con:=aJ 239 false fun args K=>match args with | [.lelem [.sft none] 0]=>∃n,K (.itr n (itS n)) | _=>False
theorem k166s:aF Tryz.prog aI9:=by
 refine aC rfl (enters_of Tryz.func239 (by kernel_rfl) rfl) ?_
 intro args K h
 simp only[aI9] at h
 split at h
 ·obtain ⟨n,hK⟩:=h
  exact ⟨_,hK,jE (Γ:=[]) (by simp) Tryz.func239 (by simp[Tryz.ntmps239]) (b166s n)⟩
 ·exact h.elim
end RB
end
section
set_option linter.unusedVariables false
set_option linter.unusedVariables false
namespace IB
theorem aK1 {B:Nat} (hB:2≤B) {w:List Int} (h:InB B w) {j k:Nat} (hk:2≤k) (hl:j+k<w.length) (hz:∀i,j+(k+1)≤i→w.getD i 0=0):
  valB B (w.drop j)<((w.getD (j+k) 0*B+w.getD (j+k-1) 0)*B+w.getD (j+k-2) 0+1)*(B:Int)^ (k-2):=by
 have e0:=eJ (B:=B) (w.drop j) (k-2) (by rw[List.length_drop];omega)
 rw[List.drop_drop,show j+(k-2)=j+k-2 by omega] at e0
 have b0:=eU hB (jF (fQ h j) (k-2)) (n:=k-2) (by rw[List.length_take];omega)
 rw[bF w (j+k-2) (by omega),show j+k-2+1=j+k-1 by omega,bF w (j+k-1) (by omega),show j+k-1+1=j+k by omega,bF w (j+k) hl] at e0
 have ez:valB B (w.drop (j+k+1))=0:=by
  have:w.drop (j+k+1)=List.replicate (w.length-(j+k+1)) 0:=by
   refine iF (by simp) fun i hi=>?_
   have:=hz (j+k+1+i) (by omega)
   rw[List.length_drop] at hi
   have hi':j+k+1+i<w.length:=by omega
   simpa [List.getD_eq_getElem?_getD,List.getElem?_drop,List.getElem?_replicate,hi,hi'] using this
  rw[this,kZ]
 simp only[valB,ez,Int.mul_zero,Int.add_zero] at e0
 have hP:=dI hB (k-2)
 generalize (B:Int)^ (k-2)=P at*
 generalize w.getD (j+k) 0=x0 at*
 generalize w.getD (j+k-1) 0=x1 at*
 generalize w.getD (j+k-2) 0=x2 at*
 rw[e0,show ((x0*B+x1)*B+x2+1)*P=P*(x2+B*(x1+B*x0))+P by
  rw[Int.add_mul _ 1,Int.one_mul,Int.mul_comm _ P,Int.add_comm _ x2,Int.mul_comm _ (B:Int),Int.add_comm _ x1,Int.mul_comm x0]]
 omega
theorem aPc {B:Nat} (hB:2≤B) {v:List Int} (h:InB B v) (hk:2≤v.length):
  (v.getD (v.length-1) 0*B+v.getD (v.length-2) 0)*(B:Int)^ (v.length-2)≤valB B v:=by
 have e0:=eJ (B:=B) v (v.length-2) (by omega)
 have b0:=bA (jF h (v.length-2))
 rw[bF v (v.length-2) (by omega),show v.length-2+1=v.length-1 by omega,bF v (v.length-1) (by omega),List.drop_eq_nil_of_le (by omega)] at e0
 simp only[valB,Int.mul_zero,Int.add_zero] at e0
 rw[Int.mul_comm,Int.add_comm (v.getD (v.length-1) 0*(B:Int)),Int.mul_comm (v.getD (v.length-1) 0)]
 omega
theorem aG8 {B:Nat} (hB:2≤B) {u v:List Int} (hu:InB B u) (hv:InB B v) (hV:0<valB B v) {m:Nat} (hm:m+v.length=u.length) (h0:valB B (u.drop m)<valB B v) (hk:2≤v.length) (hv1:0<v.getD (v.length-1) 0) (s:Nat) (hs:s<m) (f:Nat):
  (∀i,m-1-s+(v.length+1)≤i→(bZ B u v m s).1.getD i 0=0)∧
  0≤valB B ((bZ B u v m s).1.drop (m-1-s))/valB B v∧valB B ((bZ B u v m s).1.drop (m-1-s))/valB B v<B∧
  (∀top,top=(bZ B u v m s).1.getD (m-1-s+v.length) 0*B+(bZ B u v m s).1.getD (m-1-s+v.length-1) 0→
   valB B ((bZ B u v m s).1.drop (m-1-s))/valB B v≤estF B (v.getD (v.length-1) 0) (v.getD (v.length-2) 0) ((bZ B u v m s).1.getD (m-1-s+v.length-2) 0) f (top/v.getD (v.length-1) 0) (top%v.getD (v.length-1) 0)∧
   estF B (v.getD (v.length-1) 0) (v.getD (v.length-2) 0) ((bZ B u v m s).1.getD (m-1-s+v.length-2) 0) f (top/v.getD (v.length-1) 0) (top%v.getD (v.length-1) 0)≤top/v.getD (v.length-1) 0):=by
 obtain ⟨h1,h2,h3,h4,h5,h6⟩:=mJ hB hu hv hV hm h0 s (by omega)
 obtain ⟨j,hj⟩:∃j,m-1-s=j:=⟨_,rfl⟩
 have e1:m-s=j+1:=by omega
 rw[hj]
 rw[e1] at h5
 generalize (bZ B u v m s).1=w at h1 h2 h5 ⊢
 have hw:valB B (w.drop j)=w.getD j 0+(B:Int)*valB B (w.drop (j+1)):=by rw[bF w j (by omega)];rfl
 have g1:=h2.get (show j<w.length by omega)
 have hVB:=kK hv
 have hz:∀i,j+(v.length+1)≤i→w.getD i 0=0:=fun i hi=>by
  have:=aAk hB (fQ h2 (j+1)) (n:=v.length) (by omega) (i-(j+1)) (by omega)
  rw[nQ] at this
  rwa [show j+1+(i-(j+1))=i by omega] at this
 have hW0:=bA (fQ h2 j)
 have hWB:valB B (w.drop j)<(B:Int)*valB B v:=by
  have:(B:Int)*(valB B (w.drop (j+1))+1)≤B*valB B v:=Int.mul_le_mul_of_nonneg_left (by omega) (by omega)
  rw[Int.mul_add,Int.mul_one] at this
  omega
 have t3:=aK1 hB h2 hk (by omega) hz
 have t2:=aPc hB hv hk
 obtain ⟨W,hW⟩:∃W,valB B (w.drop j)=W:=⟨_,rfl⟩
 rw[hW] at hWB hW0 t3 ⊢
 have hQ0:0≤W/valB B v:=Int.ediv_nonneg (by omega) (by omega)
 have hQV:W/valB B v*valB B v≤W:=Int.ediv_mul_le _ (by omega)
 have hQB:W/valB B v<B:=Int.ediv_lt_of_lt_mul hV hWB
 refine ⟨hz,hQ0,hQB,?_⟩
 rintro top rfl
 have hP:=dI hB (v.length-2)
 have x2:=h2.get (show j+v.length-2<w.length by omega)
 have hB':(0:Int)<B:=by omega
 have hPB:(0:Int)<B*(B:Int)^ (v.length-2):=Int.mul_pos hB' hP
 have w2:=hv.get (show v.length-2<v.length by omega)
 refine aI2 hP (by omega) t2 (by omega) t3 hQB hQ0 hQV f _ _ ?_ ?_
 ·rw[Int.mul_comm (_/ _) _];exact (Int.mul_ediv_add_emod _ _).symm
 ·refine aKz (B:=(B:Int)) (P:=B*(B:Int)^ (v.length-2)) hPB hv1 ?_ ?_ hQ0 hQV
  ·refine Int.le_trans ?_ t2
   rw[← Int.mul_assoc]
   exact Int.mul_le_mul_of_nonneg_right (by omega) (Int.le_of_lt hP)
  ·refine Int.lt_of_lt_of_le t3 ?_
   rw[← Int.mul_assoc]
   refine Int.mul_le_mul_of_nonneg_right ?_ (Int.le_of_lt hP)
   rw[Int.add_mul _ 1,Int.one_mul];omega
theorem aG9 {B:Nat} (hB:2≤B) {u v:List Int} (hu:InB B u) (hv:InB B v) (hk:1≤v.length) (hv1:0<v.getD (v.length-1) 0) {m:Nat} (hm:m+v.length=u.length) (hz:u.getD (u.length-1) 0=0):valB B (u.drop m)<valB B v∧0<valB B v:=by
 have e0:=eJ (B:=B) v (v.length-1) (by omega)
 have b0:=bA (jF hv (v.length-1))
 rw[bF v (v.length-1) (by omega),List.drop_eq_nil_of_le (by omega)] at e0
 simp only[valB,Int.mul_zero,Int.add_zero] at e0
 have hP:=dI hB (v.length-1)
 have h1:(B:Int)^ (v.length-1)*1≤(B:Int)^ (v.length-1)*v.getD (v.length-1) 0:=Int.mul_le_mul_of_nonneg_left (by omega) (by omega)
 have h2:valB B (u.drop m)<(B:Int)^ (v.length-1):=aI1 hB (fQ hu m) fun i hi=>by
  rw[nQ]
  by_cases hi2:m+i<u.length
  ·rw[show m+i=u.length-1 by omega];exact hz
  ·exact eA _ _ (by omega)
 omega
end IB
end
section
set_option linter.unusedVariables false
set_option linter.unusedVariables false
namespace IB
theorem aAl {B:Nat} (hB:2≤B) {n k:Nat} (hk:1≤k) (h1:B^ (k-1)≤n) (h2:n<B^k):
  (aB B n).length=k∧(aB B n).getD (k-1) 0*(B:Int)^ (k-1)≤n∧(n:Int)<((aB B n).getD (k-1) 0+1)*(B:Int)^ (k-1):=by
 have hp:0<B^ (k-1):=Nat.pow_pos (by omega)
 obtain ⟨g1,g2,g3⟩:=dG hB (n:=n) (by omega)
 have g1:B^ ((aB B n).length-1)≤n:=by exact_mod_cast g1
 have g2:n<B^ (aB B n).length:=by exact_mod_cast g2
 have a1:=(Nat.pow_lt_pow_iff_right (show 1<B by omega)).1 (Nat.lt_of_le_of_lt g1 h2)
 have a2:=(Nat.pow_lt_pow_iff_right (show 1<B by omega)).1 (Nat.lt_of_le_of_lt h1 g2)
 have hl:(aB B n).length=k:=by omega
 have hi:=aQ hB n
 have e0:=eJ (B:=B) (aB B n) (k-1) (by omega)
 have b0:=bA (jF hi (k-1))
 have b1:=eU hB (jF hi (k-1)) (n:=k-1) (by rw[List.length_take];omega)
 rw[bF _ (k-1) (by omega),List.drop_eq_nil_of_le (by omega),cP hB] at e0
 simp only[valB,Int.mul_zero,Int.add_zero] at e0
 refine ⟨hl,?_,?_⟩
 ·rw[Int.mul_comm];omega
 ·rw[Int.add_mul,Int.one_mul,Int.mul_comm];omega
theorem scale {B:Nat} (hB:2≤B) {n:Nat} (hn:0<n) {f:Nat} (hf:(f:Int)=(B:Int)/((aB B n).getD ((aB B n).length-1) 0+1)):
  0<f∧f<B∧(aB B (n*f)).length=(aB B n).length∧(B:Int)≤4*(aB B (n*f)).getD ((aB B (n*f)).length-1) 0:=by
 obtain ⟨g1,g2,g3⟩:=dG hB hn
 have g1:B^ ((aB B n).length-1)≤n:=by exact_mod_cast g1
 have g2:n<B^ (aB B n).length:=by exact_mod_cast g2
 obtain ⟨k,hk⟩:∃k,(aB B n).length=k:=⟨_,rfl⟩
 rw[hk] at g1 g2 g3 hf ⊢
 obtain ⟨_,t1,t2⟩:=aAl hB g3 g1 g2
 have ht:=(aQ hB n).get (show k-1<(aB B n).length by omega)
 have ht1:(aB B n).getD (k-1) 0≠0:=by
  have hne:aB B n≠ []:=by rw[← List.length_pos_iff];omega
  have:=mH hB n hne
  rw[List.getLast_eq_getElem] at this
  rw[List.getD_eq_getElem?_getD,List.getElem?_eq_getElem (by omega),Option.getD_some]
  simpa [hk] using this
 obtain ⟨t,ht'⟩:∃t:Nat,(aB B n).getD (k-1) 0=t:=⟨_,(Int.eq_ofNat_of_zero_le ht.1).choose_spec⟩
 rw[ht'] at hf t1 t2 ht ht1
 obtain ⟨f1,f2,f3⟩:=aG7 (B:=(B:Int)) (t:=(t:Int)) (f:=(f:Int)) (by omega) ht.2 hf
 have f2:f*(t+1)≤B:=by exact_mod_cast f2
 have f3:B≤4*(f*t):=by exact_mod_cast f3
 have t1:t*B^ (k-1)≤n:=by exact_mod_cast t1
 have t2:n<(t+1)*B^ (k-1):=by exact_mod_cast t2
 have hf0:0<f:=by omega
 have u1:f*t*B^ (k-1)≤n*f:=by
  rw[Nat.mul_assoc,Nat.mul_comm n f];exact Nat.mul_le_mul_left f t1
 have u2:n*f<f*(t+1)*B^ (k-1):=by
  rw[Nat.mul_assoc,Nat.mul_comm n f];exact Nat.mul_lt_mul_of_pos_left t2 hf0
 have u3:f*(t+1)*B^ (k-1)≤B^k:=by
  rw[show B^k=B*B^ (k-1) by rw[← Nat.pow_succ'];congr 1;omega]
  exact Nat.mul_le_mul_right _ f2
 have hft:1≤f*t:=Nat.mul_pos hf0 (by omega)
 have u4:B^ (k-1)≤n*f:=Nat.le_trans (by rw[← Nat.one_mul (B^ (k-1)),← Nat.mul_assoc,Nat.mul_one];exact Nat.mul_le_mul_right _ hft) u1
 obtain ⟨v1,v2,v3⟩:=aAl hB g3 u4 (Nat.lt_of_lt_of_le u2 u3)
 have hfB:f<B:=by
  have:f*2≤f*(t+1):=Nat.mul_le_mul_left f (by omega)
  omega
 refine ⟨hf0,hfB,v1,?_⟩
 rw[v1]
 have hp:(0:Int)<(B:Int)^ (k-1):=dI hB (k-1)
 have u1':(f:Int)*t*(B:Int)^ (k-1)≤((n*f:Nat):Int):=by exact_mod_cast u1
 have:(f:Int)*t<(aB B (n*f)).getD (k-1) 0+1:=Int.lt_of_mul_lt_mul_right (Int.lt_of_le_of_lt u1' v3) (Int.le_of_lt hp)
 have f3':(B:Int)≤4*((f:Int)*t):=by exact_mod_cast f3
 omega
theorem aK2 {B:Nat} (hB:2≤B) (n k:Nat):InB B (aB B n++List.replicate k 0)∧valB B (aB B n++List.replicate k 0)=n∧(0<k→(aB B n++List.replicate k 0).getD ((aB B n++List.replicate k 0).length-1) 0=0):=by
 refine ⟨InB.append.2 ⟨aQ hB n,fun x hx=>?_⟩,?_,fun hk=>?_⟩
 ·rw[(List.mem_replicate.1 hx).2];omega
 ·rw[fX,kZ,Int.mul_zero,Int.add_zero,cP hB]
 ·rw[List.getD_eq_getElem?_getD,List.getElem?_append_right (by simp;omega)]
  simp[List.getElem?_replicate]
  split<;>rfl
theorem aK3 {B:Nat} (hB:2≤B) {m f:Nat} (hf:f<B):(aB B (m*f)).length≤(aB B m).length+1:=by
 rcases Nat.eq_zero_or_pos m with rfl | hm
 ·rw[Nat.zero_mul,aV];exact Nat.zero_le _
 ·rcases Nat.eq_zero_or_pos f with rfl | hf0
  ·rw[Nat.mul_zero,aV];exact Nat.zero_le _
  ·obtain ⟨g1,g2,g3⟩:=dG hB hm
   have g2:m<B^ (aB B m).length:=by exact_mod_cast g2
   obtain ⟨q1,_,_⟩:=dG hB (n:=m*f) (Nat.mul_pos hm hf0)
   have q1:B^ ((aB B (m*f)).length-1)≤m*f:=by exact_mod_cast q1
   have:m*f<B^ ((aB B m).length+1):=by
    rw[Nat.pow_succ];exact Nat.mul_lt_mul'' g2 hf
   have:=(Nat.pow_lt_pow_iff_right (show 1<B by omega)).1 (Nat.lt_of_le_of_lt q1 this)
   omega
end IB
end
section
open Go Go.Proofs Go.Eng Go.Shelf IB Go.Lib Go.RowKit
namespace RB
set_option maxRecDepth 10000
set_option linter.unusedVariables false
set_option linter.unusedSimpArgs false
theorem aNd {n:Nat} (h:(aB B9 n).length=1):(aB B9 n).getD 0 0=n∧n<1000000000:=by
 have hv:=v9 n
 have hg:=get9 (show InB B9 (aB B9 n) from aQ (by decide) n) 0
 cases hl:aB B9 n with
 | nil=>rw[hl] at h;simp at h
 | cons x r=>
  have hr:r= []:=by rw[hl] at h;simpa using h
  subst hr
  rw[hl] at hv hg
  simp only[valB,Int.mul_zero,Int.add_zero] at hv
  refine ⟨hv,?_⟩
  have hg:0≤x∧x<1000000000:=hg
  omega
theorem aNe (l:List Int) (k:Nat):l++List.replicate k 0++ [0]=l++List.replicate (k+1) 0:=by
 rw[List.append_assoc,← List.replicate_succ']
set_option maxHeartbeats 4000000 in
theorem b106 (m n:Nat) (hm:m<B9^100) (hn:0<n∧n<B9^100):
  body Tryz.prog [c129,c134,c99,aNc,aI9,c136,c137,c138,c131] { asks:=[(0,[3]),(2,[3]),(4,[3])] } false Tryz.f181 [Ls (aB B9 m),Ls (aB B9 n)] (.tup [Ls (aB B9 (m/n)),Ls (aB B9 (m%n))]):=by
 obtain ⟨hn0,hn⟩:=hn
 have im:InB B9 (aB B9 m):=aQ (by decide) m
 have jn:InB B9 (aB B9 n):=aQ (by decide) n
 have lm:=fO hm
 have ln:=fO hn
 have hc:=xT m n
 have vm:=v9 m
 have vn:=v9 n
 skip
 refine Need.mk ⟨im,jn⟩ ?_
 skip
 (refine Br.mk (fun _=>?_) (fun _=>?_))
 ·rename_i h
  have hlt:m<n:=by omega
  rw[Nat.div_eq_of_lt hlt,Nat.mod_eq_of_lt hlt,aV]
  skip
  (conv=>whnf)
  (repeat'(first|exact trivial|rfl|refine And.intro ?_ ?_|fail))
 ·rename_i h
  have hle:n≤m:=by omega
  (repeat'((conv=>whnf);first|refine Zg fun _=>?_|fail))
  (refine Br.mk (fun _=>?_) (fun _=>?_))
  ·rename_i h1
   obtain ⟨hx,hxlt⟩:=aNd (n:=n) (by omega)
   (repeat'((conv=>whnf);first|refine Zg fun _=>?_|refine Zn ?_|refine Z0 ?_|fail))
   refine Need.mk ⟨im,by omega,by omega⟩ ?_
   skip
   (conv=>whnf)
   have e1:(valB B9 (aB B9 m)/(aB B9 n).getD 0 0).toNat=m/n:=by rw[vm,hx,← Int.natCast_ediv,Int.toNat_natCast]
   have e2:(valB B9 (aB B9 m)% (aB B9 n).getD 0 0).toNat=m%n:=by rw[vm,hx,← Int.natCast_emod,Int.toNat_natCast]
   (repeat'(first|exact trivial|refine And.intro ?_ ?_|fail))
   ·exact congrArg (aB B9) e1
   ·exact congrArg (aB B9) e2
  ·rename_i h1
   have hk:2≤(aB B9 n).length:=by
    have:=(dG (B:=B9) (by decide) hn0).2.2
    omega
   have ht:=get9 jn ((aB B9 n).length-1)
   obtain ⟨f,hf⟩:∃f:Nat,(f:Int)=1000000000/((aB B9 n).getD ((aB B9 n).length-1) 0+1):=⟨_,(Int.eq_ofNat_of_zero_le (Int.ediv_nonneg (by omega) (by omega))).choose_spec.symm⟩
   obtain ⟨f0,fB,sl,st⟩:=scale (B:=B9) (by decide) hn0 hf
   have st:(1000000000:Int)≤4*(aB B9 (n*f)).getD ((aB B9 (n*f)).length-1) 0:=st
   have fB:f<1000000000:=fB
   (repeat'((conv=>whnf);first|refine Zg fun _=>?_|refine Zn ?_|fail))
   refine cF ((aB B9 n).length-1) (by omega) ?_
   (repeat'((conv=>whnf);first|refine Zg fun _=>?_|refine Za ?_|refine Zn ?_|refine Zl ?_|fail))
   rw[← hf]
   have if1:InB B9 [(f:Int)]:=fun x hx=>by
    have:x=f:=by simpa using hx
    subst this
    exact ⟨by omega,by show (f:Int)<1000000000;omega⟩
   have ef:∀k:Nat,(valB B9 (aB B9 k)*valB B9 [(f:Int)]).toNat=k*f:=fun k=>by
    rw[v9,show valB B9 [(f:Int)]=f by simp[valB],← Int.natCast_mul,Int.toNat_natCast]
   skip
   refine Need.mk ⟨im,if1,by omega,by show 1≤100000;omega⟩ ?_
   rw[ef]
   have sm:=aK3 (B:=B9) (by decide) (m:=m) (show f<B9 from fB)
   (repeat'((conv=>whnf);first|refine Zn ?_|refine Zl ?_|fail))
   refine Need.mk ⟨jn,if1,by omega,by show 1≤100000;omega⟩ ?_
   rw[ef]
   skip
   have ka:(aB B9 n).length≤(aB B9 m).length:=Classical.byContradiction fun hx=>by
    have:=gF (B:=B9) (by decide) (m:=m) (n:=n) (by omega)
    omega
   refine Ask.mk ⟨{ X:=Nat,pre:=fun i=>(aB B9 (m*f)).length+i≤(aB B9 m).length+1,mod:=fun _ _=>[],heap:=fun i H=>[V [],.cells [.ref 0 1] 60,V [],V (aB B9 (m*f)++List.replicate (i+1) 0),V (aB B9 (n*f)),V [],.cells [.ref 3 1] 60,V [],.cells [.ref 4 1] 60],mu:=fun i=>(aB B9 m).length+1-(aB B9 (m*f)).length-i,objs:=[3] },rfl,?_⟩
   (repeat'((conv=>whnf);first|refine Zn ?_|fail))
   refine ⟨⟨(0:Nat),sm,?_⟩,fun (i:Nat) hi=>?_⟩
   ·(repeat'(first|exact trivial|rfl|exact Nat.one_pos|refine And.intro ?_ ?_|fail))
   ·have hi:(aB B9 (m*f)).length+i≤(aB B9 m).length+1:=hi
    have hul:(aB B9 (m*f)++List.replicate (i+1) (0:Int)).length=(aB B9 (m*f)).length+(i+1):=by simp
    (repeat'((conv=>whnf);first|refine Zg fun _=>?_|refine Zn ?_|fail))
    (refine Br.mk (fun _=>?_) (fun _=>?_))
    ·rename_i hlt
     (repeat'((conv=>whnf);first|refine Zn ?_|refine Zl ?_|fail))
     refine ⟨(i+1:Nat),by show (aB B9 m).length+1-(aB B9 (m*f)).length-(i+1)<(aB B9 m).length+1-(aB B9 (m*f)).length-i;omega,by show _+(i+1)≤ _;omega,?_⟩
     (repeat'(first|exact trivial|rfl|exact Nat.one_pos|refine And.intro ?_ ?_|fail))
     exact aNe _ _
    ·rename_i hge
     have hge:(aB B9 m).length+1≤(aB B9 (m*f)).length+(i+1):=by omega
     obtain ⟨iu,vu,zu⟩:=aK2 (B:=B9) (by decide) (m*f) (i+1)
     have zu:=zu (by omega)
     have jv:InB B9 (aB B9 (n*f)):=aQ (by decide) _
     obtain ⟨u,hu⟩:∃u,aB B9 (m*f)++List.replicate (i+1) (0:Int)=u:=⟨_,rfl⟩
     rw[hu] at iu vu zu hul ⊢
     obtain ⟨v,hv⟩:∃v,aB B9 (n*f)=v:=⟨_,rfl⟩
     have vv:valB B9 v=((n*f:Nat):Int):=by rw[← hv];exact v9 _
     rw[hv] at st sl jv ⊢
     obtain ⟨M,hM⟩:∃M,u.length-v.length=M:=⟨_,rfl⟩
     have hMu:M+v.length=u.length:=by omega
     obtain ⟨s1,s2⟩:=aG9 (B:=B9) (by decide) iu jv (by omega) (by omega) hMu zu
     (repeat'((conv=>whnf);first|refine Zg fun _=>?_|refine Zn ?_|refine Z8 ?_|fail))
     rw[show ((u.length:Int)-v.length)=(M:Int) by omega]
     skip
     have v1p:250000000≤v.getD (v.length-1) 0:=by omega
     have hspec:=mJ (B:=B9) (by decide) iu jv s2 hMu s1
     refine Ask.mk ⟨{ X:=Nat,pre:=fun s=>s≤M,mod:=fun _ _=>[],heap:=fun s H=>[V [],.cells [.ref 9 1] 60,V [],V (bZ B9 u v M s).1,V v,V [],.cells [.ref 3 1] 60,V [],.cells [.ref 4 1] 60,V (bZ B9 u v M s).2],mu:=fun s=>s,objs:=[3] },rfl,?_⟩
     refine ⟨M,?_⟩
     (conv=>whnf)
     refine Need.mk ⟨⟨rfl,rfl,by simp⟩,fun s hs=>⟨rfl,rfl,(hspec s hs).2.2.1⟩⟩ ?_
     (repeat'((conv=>whnf);first|refine Zn ?_|fail))
     refine ⟨⟨(0:Nat),rfl,Nat.zero_le _,?_⟩,fun (s:Nat) hs (hlt:s<M)=>?_,fun (s:Nat) hs (he:s=M)=>?_⟩
     ·(repeat'(first|exact trivial|rfl|exact Nat.one_pos|refine And.intro ?_ ?_|fail))
     ·obtain ⟨w1,w2,w3,w4,w5,w6⟩:=hspec s (by omega)
      obtain ⟨r1,r2,r3,r4⟩:=aG8 (B:=B9) (by decide) iu jv s2 hMu s1 (by omega) (by omega) s hlt 8
      have hst1:(bZ B9 u v M (s+1)).1=(bJ B9 (bZ B9 u v M s).1 v (M-1-s) (valB B9 ((bZ B9 u v M s).1.drop (M-1-s))/valB B9 v) (v.length+1)).1:=rfl
      have hst2:(bZ B9 u v M (s+1)).2=(bZ B9 u v M s).2.set (M-1-s) (valB B9 ((bZ B9 u v M s).1.drop (M-1-s))/valB B9 v):=rfl
      obtain ⟨w,hw⟩:∃w,(bZ B9 u v M s).1=w:=⟨_,rfl⟩
      obtain ⟨p,hp⟩:∃p,(bZ B9 u v M s).2=p:=⟨_,rfl⟩
      obtain ⟨j,hj⟩:∃j,M-1-s=j:=⟨_,rfl⟩
      obtain ⟨Q,hQ⟩:∃Q,valB B9 (w.drop j)/valB B9 v=Q:=⟨_,rfl⟩
      rw[hw] at w1 w2 w5 w6 r1 r2 r3 r4 hst1 hst2
      rw[hp] at w3 w4 w6 hst2
      rw[hj] at r1 r2 r3 r4 hst1 hst2
      rw[hQ] at r2 r3 r4 hst1 hst2
      show hnfL (itS M s) _
      (repeat'((conv=>whnf);first|refine Zg fun _=>?_|fail))
      (conv=>whnf)
      rw[hw,hj]
      refine Need.mk ⟨w2,jv,by omega,by omega,v1p,by omega,by omega⟩ ?_
      rw[Int.toNat_natCast]
      have g0:=get9 w2 (j+v.length)
      have g1:=get9 w2 (j+v.length-1)
      have hT:0≤top2 w v j∧top2 w v j<1000000000000000000:=by unfold top2;omega
      have hq4:top2 w v j/v.getD (v.length-1) 0≤4000000000:=by
       refine Int.le_trans (Int.ediv_le_ediv (by omega) (show top2 w v j≤4000000000*v.getD (v.length-1) 0 by omega)) ?_
       rw[Int.mul_ediv_cancel _ (by omega)]
       exact Int.le_refl _
      have r5:Q≤estL w v j∧estL w v j≤4000000000:=⟨(r4 (top2 w v j) rfl).1,Int.le_trans (r4 (top2 w v j) rfl).2 hq4⟩
      obtain ⟨q0,hq0⟩:∃q0,estL w v j=q0:=⟨_,rfl⟩
      rw[hq0] at r5
      skip
      refine Ask.mk ⟨{ X:=Int,pre:=fun q=>Q≤q∧q≤4000000000,mod:=fun q _=>[(10,I q)],heap:=fun q H=>[V [],.cells [.ref 9 1] 60,V [],V w,V v,V [],.cells [.ref 3 1] 60,V [],.cells [.ref 4 1] 60,V p,.gone],mu:=fun q=>(q-Q).toNat,objs:=[3] },rfl,?_⟩
      (repeat'((conv=>whnf);first|refine Zn ?_|fail))
      refine ⟨⟨q0,r5,?_⟩,fun (q:Int) hq=>?_⟩
      ·(repeat'(first|exact trivial|rfl|exact Nat.one_pos|refine And.intro ?_ ?_|fail))
       ·exact hq0
       ·exact hp
      ·obtain ⟨q1,q2⟩:=hq
       have q1:Q≤q:=q1
       obtain ⟨k1,k2,k3,_⟩:=iH (B:=B9) (by decide) w2 jv (j:=j) (q:=q) (by omega) (v.length+1) (by omega)
       obtain ⟨k4,_⟩:=aFb (B:=B9) (by decide) w2 jv (j:=j) (q:=q) (by omega) (by omega) r1
       have krest:=aG6 (B:=B9) (by decide) w2 jv (j:=j) (q:=q) (by omega) (k:=v.length+1) (by omega)
       have kQ:q*valB B9 v≤valB B9 (w.drop j)↔q≤Q:=by rw[← hQ,Int.le_ediv_iff_mul_le s2]
       skip
       refine Need.mk ⟨w2,jv,by omega,by omega,by omega,by omega⟩ ?_
       rw[Int.toNat_natCast]
       skip
       (refine Br.mk (fun _=>?_) (fun _=>?_))
       ·rename_i hc
        have hgt:Q<q:=by
         refine Classical.byContradiction fun hx=>?_
         have:=k4.2 (kQ.2 (by omega))
         omega
        skip
        refine Need.mk ⟨k2,jv,by omega,by omega,by omega,by omega⟩ ?_
        (repeat'((conv=>whnf);first|refine Zn ?_|fail))
        refine ⟨q-1,?_,⟨by show Q≤q-1;omega,by show q-1≤4000000000;omega⟩,?_⟩
        ·show (q-1-Q).toNat<(q-Q).toNat
         omega
        ·(repeat'(first|exact trivial|rfl|exact Nat.one_pos|refine And.intro ?_ ?_|fail))
         exact krest
       ·rename_i hc
        have hqQ:q=Q:=by
         have:=kQ.1 (k4.1 (by omega))
         omega
        subst hqQ
        (repeat'((conv=>whnf);first|refine Zn ?_|refine Zj ?_|fail))
        refine ⟨(s+1:Nat),rfl,hlt,?_⟩
        (repeat'(first|exact trivial|rfl|exact Nat.one_pos|refine And.intro ?_ ?_|fail))
        ·exact hst1.symm
        ·exact hst2.symm
     ·subst he
      obtain ⟨a1,a2⟩:=aK0 (B:=B9) (by decide) iu jv s2 hMu s1
      have e1:(valB B9 u/valB B9 v).toNat=m/n:=by
       rw[vu,vv,← Int.natCast_ediv,Int.toNat_natCast,Nat.mul_div_mul_right _ _ f0]
      have e2:(valB B9 u%valB B9 v).toNat=m%n*f:=by
       rw[vu,vv,← Int.natCast_emod,Int.toNat_natCast,Nat.mul_mod_mul_right]
      rw[e1] at a1
      rw[e2] at a2
      have hr:m%n*f<B9^101:=by
       rw[Nat.pow_succ]
       exact Nat.mul_lt_mul'' (Nat.lt_trans (Nat.mod_lt m hn0) hn) fB
      have lr:=fO hr
      skip
      (conv=>whnf)
      rw[a2]
      refine Need.mk ⟨aQ (by decide) _,by omega,by omega⟩ ?_
      have e3:(valB B9 (aB B9 (m%n*f))/(f:Int)).toNat=m%n:=by
       rw[v9,← Int.natCast_ediv,Int.toNat_natCast,Nat.mul_div_cancel _ f0]
      rw[e3]
      skip
      (conv=>whnf)
      (repeat'(first|exact trivial|rfl|refine And.intro ?_ ?_|fail))
      ·exact a1
def c106:Con:=aJ 181 false fun args K=>match args with
 | [.seq (.int .i64) a,.seq (.int .i64) b]=>Need (qF a∧qF b∧b≠ []) (K (.tup [Ls (aB B9 ((valB B9 a).toNat/(valB B9 b).toNat)),Ls (aB B9 ((valB B9 a).toNat% (valB B9 b).toNat))]))
 | _=>False
theorem aHa {b:List Int} (h:qF b) (hb:b≠ []):0<(valB B9 b).toNat:=by
 refine Nat.pos_of_ne_zero fun h0=>hb ?_
 rw[h.1,h0,aV]
theorem k106:aF Tryz.prog c106:=by
 refine aC rfl (enters_of Tryz.func181 (by kernel_rfl) rfl) ?_
 intro args K h
 simp only[c106] at h
 split at h
 ·rename_i a b
  refine ⟨_,h.go,?_⟩
  obtain ⟨⟨ha,hm⟩,⟨hb,hn⟩,hne⟩:=h.ok
  have ht:=aA (Γ:=[c129,c134,c99,aNc,aI9,c136,c137,c138,c131]) (by simp[k129,k134,k99,k135h,k166s,k136,k137,k138,k131]) Tryz.func181 (by simp[Tryz.ntmps181]) rfl (b106 (valB B9 a).toNat (valB B9 b).toNat hm ⟨aHa ⟨hb,hn⟩ hne,hn⟩)
  rw[← ha,← hb] at ht
  exact ht
 ·exact h.elim
def dvI (x y:Int):List UInt8 × List UInt8 × Int:=if lim (x.fdiv y) || lim (x.fmod y) then ([],[],4) else (itoa (x.fdiv y),itoa (x.fmod y),0)
noncomputable def divI (a b:List UInt8):List UInt8 × List UInt8 × Int:=if chk2 a b≠0 then ([],[],chk2 a b) else if b= [48] then ([],[],12) else dvI (valI a) (valI b)
theorem aNf {b:List UInt8} (h:form b) (h0:¬b= [48]):valI b≠0:=fun e=>h0 (by
 have:=oN h
 rw[e] at this
 rw[this]
 unfold itoa
 rw[if_neg (by omega)]
 exact cB (show 0<10 by omega))
theorem pw12:B9^100<B9^200:=Nat.pow_lt_pow_right (by decide) (by omega)
theorem aNg (x y:Int):dvI x y=if (resI (x.fdiv y)).2≠0∨(resI (x.fmod y)).2≠0 then ([],[],4) else ((resI (x.fdiv y)).1,(resI (x.fmod y)).1,0):=by
 unfold dvI resI
 by_cases h1:lim (x.fdiv y)=true<;>by_cases h2:lim (x.fmod y)=true<;>simp[h1,h2]
theorem sN {x y q r:Int} (hq:q=x.fdiv y) (hr:r=x.fmod y) (h1:q.natAbs<10^40) (h2:r.natAbs<10^40):dvI x y=(itoa q,itoa r,0):=by
 rw[aNg,← hq,← hr,dZ h1,dZ h2]
 simp
theorem aNh (p q:Prop) [Decidable p] [Decidable q] (m n:Nat) (hn:0<n):
  sgP (¬(p↔q)) ((if ¬(p↔q)∧0<m%n then m/n+1 else m/n:Nat):Int)=(sgP p m).fdiv (sgP q n)∧sgP q ((if ¬(p↔q)∧0<m%n then n-m%n else m%n:Nat):Int)=(sgP p m).fmod (sgP q n):=by
 have h:=aPa (decide p) m (decide q) n hn
 have e1:∀(r:Prop) [Decidable r] (k:Nat),sgn (decide r) k=sgP r k:=fun r _ k=>by unfold sgn sgP;by_cases hr:r<;>simp[hr]
 rw[Prod.mk.injEq,e1,e1,e1] at h
 have e2:∀k,sgn (decide p != decide q) k=sgP (¬(p↔q)) k:=fun k=>by
  unfold sgn sgP
  by_cases hp:p<;>by_cases hq:q<;>simp[hp,hq]
 rw[e2] at h
 have e3:(decide p≠decide q)↔¬(p↔q):=by by_cases hp:p<;>by_cases hq:q<;>simp[hp,hq]
 by_cases hc:¬(p↔q)∧0<m%n
 ·rw[if_pos hc,if_pos hc]
  rw[if_pos ⟨e3.2 hc.1,hc.2⟩,if_pos ⟨e3.2 hc.1,hc.2⟩] at h
  exact h
 ·rw[if_neg hc,if_neg hc]
  rw[if_neg (fun hx=>hc ⟨e3.1 hx.1,hx.2⟩),if_neg (fun hx=>hc ⟨e3.1 hx.1,hx.2⟩)] at h
  exact h
set_option maxHeartbeats 4000000 in
theorem b69 (a b:List UInt8):body Tryz.prog [c94,c95,c61,c98,c106,c107,c96] {} true Tryz.f129 [S a,S b] (.tup [S (divI a b).1,S (divI a b).2.1,I (divI a b).2.2]):=by
 unfold divI
 skip
 (refine Br.mk (fun _=>?_) (fun _=>?_))
 ·rename_i h
  rw[if_pos h]
  skip
  (conv=>whnf)
  (repeat'(first|exact trivial|rfl|refine And.intro ?_ ?_|fail))
 ·rename_i h
  rw[if_neg h]
  obtain ⟨ha,hb⟩:=fG h
  obtain ⟨fa,la⟩:=bE ha
  obtain ⟨fb,lb⟩:=bE hb
  skip
  (refine Br.mk (fun _=>?_) (fun _=>?_))
  ·rename_i h0
   rw[if_pos h0]
   skip
   (conv=>whnf)
   (repeat'(first|exact trivial|rfl|refine And.intro ?_ ?_|fail))
  ·rename_i h0
   rw[if_neg h0]
   have hy:=aNf fb h0
   skip
   refine Need.mk ⟨rfl,fa,fb⟩ ?_
   skip
   (refine Br.mk (fun _=>?_) (fun _=>?_))
   ·rename_i hs
    have h1:=dO fa hs.1
    have h2:=dO fb hs.2
    have hd:((valI a).tdiv (valI b)).natAbs≤(valI a).natAbs:=by rw[Int.natAbs_tdiv];exact Nat.div_le_self _ _
    have hm:((valI a).tmod (valI b)).natAbs<(valI b).natAbs:=by rw[Int.natAbs_tmod];exact Nat.mod_lt _ (by omega)
    have hsd:=aAj (valI a) (valI b) hy
    (repeat'((conv=>whnf);first|refine Zb ?_|refine Zn ?_|(apply Pin.mk;apply Exists.intro)|apply Pinned.mk rfl rfl|fail))
    (refine Br.mk (fun _=>?_) (fun _=>?_))
    ·rename_i hr
     skip
     (refine Br.mk (fun _=>?_) (fun _=>?_))
     ·rename_i hsg
      rw[if_pos ⟨hr,hsg⟩,Prod.mk.injEq] at hsd
      rw[sN hsd.1 hsd.2 (by omega) (by omega)]
      (repeat'((conv=>whnf);first|refine Zn ?_|fail))
      (conv=>whnf)
      (repeat'(first|exact trivial|rfl|refine And.intro ?_ ?_|fail))
     ·rename_i hsg
      rw[if_neg (fun hx=>hsg hx.2),Prod.mk.injEq] at hsd
      rw[sN hsd.1 hsd.2 (by omega) (by omega)]
      skip
      (conv=>whnf)
      (repeat'(first|exact trivial|rfl|refine And.intro ?_ ?_|fail))
    ·rename_i hr
     rw[if_neg (fun hx=>hr hx.1),Prod.mk.injEq] at hsd
     rw[sN hsd.1 hsd.2 (by omega) (by omega)]
     skip
     (conv=>whnf)
     (repeat'(first|exact trivial|rfl|refine And.intro ?_ ?_|fail))
   ·rename_i hs
    skip
    refine Need.mk ⟨fa,by omega⟩ ?_
    skip
    refine Need.mk ⟨fb,by omega⟩ ?_
    have pb:0<aD (digs b):=Nat.pos_of_ne_zero fun e=>hy (by rw[cU,e];unfold sgP;split<;>rfl)
    (repeat'((conv=>whnf);first|refine Zl ?_|fail))
    refine Need.mk ⟨bN fa la,bN fb lb,fun e=>by rw[iC (by decide)] at e;omega⟩ ?_
    rw[v9,v9,Int.toNat_natCast,Int.toNat_natCast]
    obtain ⟨d1,d2⟩:=aNh (a.headD 0=45) (b.headD 0=45) (aD (digs a)) (aD (digs b)) pb
    rw[← cU,← cU] at d1 d2
    rw[aNg]
    obtain ⟨M,hM⟩:∃M,aD (digs a)=M:=⟨_,rfl⟩
    obtain ⟨N,hN⟩:∃N,aD (digs b)=N:=⟨_,rfl⟩
    have cM:=(bN fa la).2
    have cN:=(bN fb lb).2
    rw[v9,Int.toNat_natCast,hM] at cM
    rw[v9,Int.toNat_natCast,hN] at cN
    rw[hM,hN] at d1 d2 ⊢
    rw[hN] at pb
    skip
    (refine Br.mk (fun _=>?_) (fun _=>?_))
    ·rename_i hne
     (repeat'((conv=>whnf);first|refine Zg fun _=>?_|fail))
     (refine Br.mk (fun _=>?_) (fun _=>?_))
     ·rename_i hrm
      have hpos:0<M%N:=Nat.pos_of_ne_zero fun e=>by rw[e,aV] at hrm;exact absurd hrm (by decide)
      rw[if_pos ⟨hne,hpos⟩] at d1 d2
      have ex1:(valB B9 (aB B9 (M/N))+valB B9 [(1:Int)]).toNat=M/N+1:=by rw[v9,show valB B9 [(1:Int)]=1 by simp[valB]];generalize M/N=k;omega
      have ex2:(valB B9 (aB B9 N)-valB B9 (aB B9 (M%N))).toNat=N-M%N:=by rw[v9,v9];omega
      have hv1:∀hd,@sgP (¬(a.headD 0=45↔b.headD 0=45)) hd (valB B9 (aB B9 (M/N+1)))=(valI a).fdiv (valI b):=fun hd=>by rw[← d1,v9];congr
      have hv2:sgP (b.headD 0=45) (valB B9 (aB B9 (N-M%N)))=(valI a).fmod (valI b):=by rw[← d2,v9]
      have lq:=fO (show M/N<B9^100 from Nat.lt_of_le_of_lt (Nat.div_le_self _ _) cM)
      have lr:=fO (show M%N<B9^100 from Nat.lt_trans (Nat.mod_lt _ pb) cN)
      have hml:=Nat.mod_lt M pb
      have lN:=fO cN
      have big1:M/N+1<B9^200:=by
       have h1:M/N<B9^100:=Nat.lt_of_le_of_lt (Nat.div_le_self _ _) cM
       have h2:B9^100<B9^200:=Nat.pow_lt_pow_right (by decide) (by omega)
       omega
      (repeat'((conv=>whnf);first|(apply Pin.mk;apply Exists.intro)|apply Pinned.mk rfl rfl|refine Zl ?_|fail))
      refine Need.mk ⟨aQ (by decide) _,fun x hx=>?_,by omega,by show 1≤100000;omega⟩ ?_
      ·have:x=1:=by simpa using hx
       subst this
       exact ⟨by omega,by show (1:Int)<1000000000;omega⟩
      rw[ex1]
      (repeat'((conv=>whnf);first|(apply Pin.mk;apply Exists.intro)|apply Pinned.mk rfl rfl|fail))
      refine Need.mk ⟨aQ (by decide) _,aQ (by decide) _,by rw[v9,v9];omega,by omega,by omega⟩ ?_
      rw[ex2]
      skip
      refine Need.mk (cY (show M/N+1<B9^200 from big1)) ?_
      rw[hv1]
      skip
      refine Need.mk (cY (show N-M%N<B9^200 from (Nat.lt_trans (show N-M%N<B9^100 from Nat.lt_of_le_of_lt (Nat.sub_le _ _) cN) pw12))) ?_
      rw[hv2]
      skip
      (refine Br.mk (fun _=>?_) (fun _=>?_))
      ·rename_i z1
       rw[if_pos (.inl z1)]
       skip
       (conv=>whnf)
       (repeat'(first|exact trivial|rfl|refine And.intro ?_ ?_|fail))
      ·rename_i z1
       skip
       (refine Br.mk (fun _=>?_) (fun _=>?_))
       ·rename_i z2
        rw[if_pos (.inr z2)]
        skip
        (conv=>whnf)
        (repeat'(first|exact trivial|rfl|refine And.intro ?_ ?_|fail))
       ·rename_i z2
        rw[if_neg (fun hx=>hx.elim z1 z2)]
        skip
        (conv=>whnf)
        (repeat'(first|exact trivial|rfl|refine And.intro ?_ ?_|fail))
     ·rename_i hrm
      have h00:M%N=0:=by
       have:(aB B9 (M%N)).length=0:=by omega
       exact (iC (by decide)).1 (List.eq_nil_of_length_eq_zero this)
      have d1':(valI a).fdiv (valI b)=sgP (¬(a.headD 0=45↔b.headD 0=45)) ((M/N:Nat):Int):=by rw[← d1,if_neg (fun hx=>absurd hx.2 (by omega))]
      have d2':(valI a).fmod (valI b)=sgP (b.headD 0=45) ((M%N:Nat):Int):=by rw[← d2,if_neg (fun hx=>absurd hx.2 (by omega))]
      have hv1:∀hd,@sgP (¬(a.headD 0=45↔b.headD 0=45)) hd (valB B9 (aB B9 (M/N)))=(valI a).fdiv (valI b):=fun hd=>by rw[d1',v9];congr
      have hv2:sgP (b.headD 0=45) (valB B9 (aB B9 (M%N)))=(valI a).fmod (valI b):=by rw[d2',v9]
      skip
      refine Need.mk (cY (Nat.lt_trans ((show M/N<B9^100 from Nat.lt_of_le_of_lt (Nat.div_le_self _ _) cM)) pw12)) ?_
      rw[hv1]
      skip
      refine Need.mk (cY (Nat.lt_trans ((show M%N<B9^100 from Nat.lt_trans (Nat.mod_lt _ pb) cN)) pw12)) ?_
      rw[hv2]
      skip
      (refine Br.mk (fun _=>?_) (fun _=>?_))
      ·rename_i z1
       rw[if_pos (.inl z1)]
       skip
       (conv=>whnf)
       (repeat'(first|exact trivial|rfl|refine And.intro ?_ ?_|fail))
      ·rename_i z1
       skip
       (refine Br.mk (fun _=>?_) (fun _=>?_))
       ·rename_i z2
        rw[if_pos (.inr z2)]
        skip
        (conv=>whnf)
        (repeat'(first|exact trivial|rfl|refine And.intro ?_ ?_|fail))
       ·rename_i z2
        rw[if_neg (fun hx=>hx.elim z1 z2)]
        skip
        (conv=>whnf)
        (repeat'(first|exact trivial|rfl|refine And.intro ?_ ?_|fail))
    ·rename_i hne
     have d1':(valI a).fdiv (valI b)=sgP (¬(a.headD 0=45↔b.headD 0=45)) ((M/N:Nat):Int):=by rw[← d1,if_neg (fun hx=>hne hx.1)]
     have d2':(valI a).fmod (valI b)=sgP (b.headD 0=45) ((M%N:Nat):Int):=by rw[← d2,if_neg (fun hx=>hne hx.1)]
     have hv1:∀hd,@sgP (¬(a.headD 0=45↔b.headD 0=45)) hd (valB B9 (aB B9 (M/N)))=(valI a).fdiv (valI b):=fun hd=>by rw[d1',v9];congr
     have hv2:sgP (b.headD 0=45) (valB B9 (aB B9 (M%N)))=(valI a).fmod (valI b):=by rw[d2',v9]
     skip
     refine Need.mk (cY (Nat.lt_trans ((show M/N<B9^100 from Nat.lt_of_le_of_lt (Nat.div_le_self _ _) cM)) pw12)) ?_
     rw[hv1]
     skip
     refine Need.mk (cY (Nat.lt_trans ((show M%N<B9^100 from Nat.lt_trans (Nat.mod_lt _ pb) cN)) pw12)) ?_
     rw[hv2]
     skip
     (refine Br.mk (fun _=>?_) (fun _=>?_))
     ·rename_i z1
      rw[if_pos (.inl z1)]
      skip
      (conv=>whnf)
      (repeat'(first|exact trivial|rfl|refine And.intro ?_ ?_|fail))
     ·rename_i z1
      skip
      (refine Br.mk (fun _=>?_) (fun _=>?_))
      ·rename_i z2
       rw[if_pos (.inr z2)]
       skip
       (conv=>whnf)
       (repeat'(first|exact trivial|rfl|refine And.intro ?_ ?_|fail))
      ·rename_i z2
       rw[if_neg (fun hx=>hx.elim z1 z2)]
       skip
       (conv=>whnf)
       (repeat'(first|exact trivial|rfl|refine And.intro ?_ ?_|fail))
def c69:Con:=aJ 129 true fun args K=>match args with | [.str a,.str b]=>K (.tup [S (divI a b).1,S (divI a b).2.1,I (divI a b).2.2]) | _=>False
theorem k69:aF Tryz.prog c69:=by
 refine aC rfl (enters_of Tryz.func129 (by kernel_rfl) rfl) ?_
 intro args K h
 simp only[c69] at h
 split at h
 ·rename_i a b;exact ⟨_,h,aA (Γ:=[c94,c95,c61,c98,c106,c107,c96]) (by simp[k94,k95,k61,k98,k106,k107,k96]) Tryz.func129 (by simp[Tryz.ntmps129]) rfl (b69 a b)⟩
 ·exact h.elim
theorem xM {P:Program} {fr:Bool} {f:FuncId} {args args':List SV} {r:SV} (h:Tri P fr f args r) (he:ent.entL args' args):Tri P fr f args' r:=
 fun ok w vs hg hok hr=>h ok w vs hg hok (dW he hr)
def c96g:Con:=aJ 140 true fun args K=>match args with
 | [.agg [.val (.bool false),.seq (.int .i64) a]]=>Need (uE a) (K (.tup [S (resI (valB B9 a)).1,I (resI (valB B9 a)).2]))
 | _=>False
theorem k96g:aF Tryz.prog c96g:=by
 refine aC rfl (enters_of Tryz.func140 (by kernel_rfl) rfl) ?_
 intro args K h
 simp only[c96g] at h
 split at h
 ·rename_i a
  refine ⟨_,h.go,?_⟩
  have ht:=aA (Γ:=[c128,c88]) (by simp[k128,k88]) Tryz.func140 (by simp[Tryz.ntmps140]) rfl (b96 False inferInstance a h.ok)
  refine xM (args:=[.agg [.bl False inferInstance,Ls a]]) ht ⟨⟨fun h=>h,?_,trivial⟩,trivial⟩
  rfl
 ·exact h.elim
theorem rM (x y:Int):Int.gcd y (x.tmod y)=Int.gcd x y:=by
 unfold Int.gcd
 rw[Int.natAbs_tmod,Nat.gcd_comm,← Nat.gcd_rec,Nat.gcd_comm]
theorem mL (p:Prop) [Decidable p] (n:Nat):(sgP p n).natAbs=n:=by unfold sgP;split<;>omega
theorem xN {m:Nat} (h:m<B9^34):qF (aB B9 m):=by
 refine ⟨by rw[v9,Int.toNat_natCast],?_⟩
 rw[v9,Int.toNat_natCast]
 exact Nat.lt_of_lt_of_le h (Nat.pow_le_pow_right (by decide) (by omega))
set_option maxHeartbeats 4000000 in
theorem b89 (a b:List UInt8):body Tryz.prog [c94,c95,c61,c98,c106,c96g] { asks:=[(0,[]),(2,[])] } true Tryz.f144 [S a,S b] (.tup [S (bB a b (resI (Int.gcd (valI a) (valI b)))).1,I (bB a b (resI (Int.gcd (valI a) (valI b)))).2]):=by
 unfold bB
 skip
 (refine Br.mk (fun _=>?_) (fun _=>?_))
 ·rename_i h
  rw[if_pos h]
  skip
  (conv=>whnf)
  (repeat'(first|exact trivial|rfl|refine And.intro ?_ ?_|fail))
 ·rename_i h
  rw[if_neg h]
  obtain ⟨ha,hb⟩:=fG h
  obtain ⟨fa,la⟩:=bE ha
  obtain ⟨fb,lb⟩:=bE hb
  skip
  refine Need.mk ⟨rfl,fa,fb⟩ ?_
  skip
  (refine Br.mk (fun _=>?_) (fun _=>?_))
  ·rename_i hs
   have h1:=dO fa hs.1
   have h2:=dO fb hs.2
   skip
   refine Ask.mk ⟨{ X:=Int × Int,pre:=fun z=>Int.gcd z.1 z.2=Int.gcd (valI a) (valI b)∧z.1.natAbs≤1000000000000000000∧z.2.natAbs≤1000000000000000000,mod:=fun z _=>[(7,I z.1),(8,I z.2)],heap:=fun _ _=>[],mu:=fun z=>z.2.natAbs },rfl,?_⟩
   (repeat'((conv=>whnf);first|refine Zn ?_|fail))
   refine ⟨⟨(valI a,valI b),⟨rfl,by show (valI a).natAbs≤ _;omega,by show (valI b).natAbs≤ _;omega⟩,by (repeat'(first|exact trivial|rfl|refine And.intro ?_ ?_|fail))⟩,fun (z:Int × Int) hz=>?_⟩
   obtain ⟨z1,z2,z3⟩:=hz
   skip
   (refine Br.mk (fun _=>?_) (fun _=>?_))
   ·rename_i hy
    have hm:(z.1.tmod z.2).natAbs<z.2.natAbs:=by rw[Int.natAbs_tmod];exact Nat.mod_lt _ (by omega)
    (repeat'((conv=>whnf);first|refine Zb ?_|(apply Pin.mk;apply Exists.intro)|apply Pinned.mk rfl rfl|fail))
    (conv=>whnf)
    refine ⟨(z.2,z.1.tmod z.2),hm,⟨by rw[← z1];exact rM _ _,z3,by show (z.1.tmod z.2).natAbs≤ _;omega⟩,?_⟩
    (repeat'(first|exact trivial|rfl|refine And.intro ?_ ?_|fail))
   ·rename_i hy
    have hy:z.2=0:=by omega
    have hg:((Int.gcd (valI a) (valI b):Nat):Int)=max z.1 (-z.1):=by
     rw[← z1,hy,Int.gcd_zero_right]
     omega
    rw[hg,dZ (by omega)]
    (repeat'((conv=>whnf);first|refine Zn ?_|fail))
    (conv=>whnf)
    (repeat'(first|exact trivial|rfl|refine And.intro ?_ ?_|fail))
  ·rename_i hs
   skip
   refine Need.mk ⟨fa,by omega⟩ ?_
   skip
   refine Need.mk ⟨fb,by omega⟩ ?_
   have pM:=iM fa la
   have pN:=iM fb lb
   have hgv:Int.gcd (valI a) (valI b)=Nat.gcd (aD (digs a)) (aD (digs b)):=by
    unfold Int.gcd
    rw[cU,cU,mL,mL]
   rw[hgv]
   skip
   refine Ask.mk ⟨{ X:=Nat × Nat,pre:=fun z=>Nat.gcd z.1 z.2=Nat.gcd (aD (digs a)) (aD (digs b))∧z.1<B9^34∧z.2<B9^34,mod:=fun z _=>[(10,Ls (aB B9 z.1)),(11,Ls (aB B9 z.2))],heap:=fun _ _=>[],mu:=fun z=>z.2 },rfl,?_⟩
   (repeat'((conv=>whnf);first|refine Zn ?_|fail))
   refine ⟨⟨(aD (digs a),aD (digs b)),⟨rfl,pM,pN⟩,by (repeat'(first|exact trivial|rfl|refine And.intro ?_ ?_|fail))⟩,fun (z:Nat × Nat) hz=>?_⟩
   obtain ⟨z1,z2,z3⟩:=hz
   (repeat'((conv=>whnf);first|refine Zg fun _=>?_|fail))
   (refine Br.mk (fun _=>?_) (fun _=>?_))
   ·rename_i hy
    have hy:0<z.2:=Nat.pos_of_ne_zero fun e=>by rw[e,aV] at hy;exact absurd hy (by decide)
    skip
    refine Need.mk ⟨xN z2,xN z3,fun e=>by rw[iC (by decide)] at e;omega⟩ ?_
    rw[v9,v9,Int.toNat_natCast,Int.toNat_natCast]
    skip
    refine ⟨(z.2,z.1%z.2),Nat.mod_lt _ hy,⟨by rw[← z1];show Nat.gcd z.2 (z.1%z.2)= _;rw[Nat.gcd_comm z.1 z.2,Nat.gcd_rec z.2 z.1];exact Nat.gcd_comm _ _,z3,Nat.lt_trans (Nat.mod_lt _ hy) z3⟩,?_⟩
    (repeat'(first|exact trivial|rfl|refine And.intro ?_ ?_|fail))
   ·rename_i hy
    have hy:z.2=0:=(iC (B:=B9) (by decide)).1 (List.eq_nil_of_length_eq_zero (by omega))
    rw[hy,Nat.gcd_zero_right] at z1
    rw[← z1]
    skip
    refine Need.mk (cY (Nat.lt_of_lt_of_le z2 (Nat.pow_le_pow_right (by decide) (by omega)))) ?_
    rw[v9]
    skip
    (conv=>whnf)
    (repeat'(first|exact trivial|rfl|refine And.intro ?_ ?_|fail))
def c89:Con:=aJ 144 true fun args K=>match args with | [.str a,.str b]=>K (.tup [S (bB a b (resI (Int.gcd (valI a) (valI b)))).1,I (bB a b (resI (Int.gcd (valI a) (valI b)))).2]) | _=>False
theorem k89:aF Tryz.prog c89:=by
 refine aC rfl (enters_of Tryz.func144 (by kernel_rfl) rfl) ?_
 intro args K h
 simp only[c89] at h
 split at h
 ·rename_i a b;exact ⟨_,h,aA (Γ:=[c94,c95,c61,c98,c106,c96g]) (by simp[k94,k95,k61,k98,k106,k96g]) Tryz.func144 (by simp[Tryz.ntmps144]) rfl (b89 a b)⟩
 ·exact h.elim
end RB
end
section
set_option linter.unusedVariables false
set_option linter.unusedVariables false
namespace IB
open Go.Lib
def lead:List UInt8→Nat
 | []=>0
 | c::r=>if 48≤c.toNat∧c.toNat≤57 then lead r+1 else 0
theorem aCr:∀s,lead s≤s.length
 | []=>Nat.le_refl _
 | c::r=>by
  unfold lead
  split
  ·have:=aCr r;simp only[List.length_cons];omega
  ·omega
theorem xL:∀s:List UInt8,∀c∈s.take (lead s),aT c
 | [],c,h=>by simp at h
 | x::r,c,h=>by
  unfold lead at h
  split at h
  ·rename_i hx
   rw[List.take_succ_cons] at h
   rcases List.mem_cons.1 h with rfl | h
   ·exact hx
   ·exact xL r c h
  ·simp at h
theorem rK:∀(s:List UInt8) (n:Nat),n≤s.length→(∀i,i<n→aT (s.getD i 0))→(n=s.length∨¬aT (s.getD n 0))→lead s=n
 | [],n,h1,_,_=>by simp at h1;subst h1;rfl
 | c::r,0,_,_,h3=>by
  rcases h3 with h3 | h3
  ·simp at h3
  ·unfold lead
   rw[if_neg]
   exact h3
 | c::r,n+1,h1,h2,h3=>by
  have hc:48≤c.toNat∧c.toNat≤57:=h2 0 (by omega)
  unfold lead
  rw[if_pos hc,rK r n (by simpa using h1) (fun i hi=>h2 (i+1) (by omega)) (by
   rcases h3 with h3 | h3
   ·exact .inl (by simpa using h3)
   ·exact .inr h3)]
theorem aM8 {s:List UInt8}:lead s=s.length↔∀c∈s,aT c:=by
 constructor
 ·intro h c hc
  have:=xL s c
  rw[h,List.take_length] at this
  exact this hc
 ·intro h
  exact rK s s.length (Nat.le_refl _) (fun i hi=>by
   rw[List.getD_eq_getElem?_getD,List.getElem?_eq_getElem hi]
   exact h _ (List.getElem_mem hi)) (.inl rfl)
def dgsN (s:List UInt8):Nat:=if 1<lead s∧s.headD 0=48 then 0 else lead s
def okD (s:List UInt8):Prop:=dgsN s≠0∧s.length≤dgsN s
theorem gM (s:List UInt8):okD s↔s≠ []∧(∀c∈s,aT c)∧(s.length=1∨s.headD 0≠48):=by
 have hl:=aCr s
 unfold okD dgsN
 rw[← aM8]
 by_cases h:1<lead s∧s.headD 0=48
 ·rw[if_pos h]
  refine ⟨fun hx=>absurd rfl hx.1,?_⟩
  rintro ⟨_,h2,h3⟩
  rcases h3 with h3 | h3
  ·omega
  ·exact absurd h.2 h3
 ·rw[if_neg h]
  constructor
  ·rintro ⟨h1,h2⟩
   have e:lead s=s.length:=by omega
   refine ⟨fun hx=>by rw[hx] at h1;exact h1 rfl,e,?_⟩
   by_cases h48:s.headD 0=48
   ·left
    have:¬1<lead s:=fun hx=>h ⟨hx,h48⟩
    omega
   ·exact .inr h48
  ·rintro ⟨h1,h2,h3⟩
   have:=List.length_pos_iff.2 h1
   exact ⟨by omega,by omega⟩
theorem aI4 {s:List UInt8} (h1:s.length=1) (h:s.headD 0=48):s= [48]:=by
 cases s with
 | nil=>simp at h1
 | cons c r=>
  have:r= []:=by simpa using h1
  subst this
  simp at h;rw[h]
theorem aFd (t:List UInt8):form t↔okD (digs t)∧¬(t.headD 0=45∧digs t= [48]):=by
 rw[gM]
 unfold form
 constructor
 ·rintro ⟨h1,h2,h3⟩
  refine ⟨⟨h1,h3,?_⟩,?_⟩
  ·rcases h2 with h2 | h2
   ·exact .inr h2
   ·left;rw[h2];rfl
  ·rintro ⟨q1,q2⟩
   rcases h2 with h2 | h2
   ·rw[q2] at h2;exact h2 rfl
   ·rw[h2] at q1;simp at q1
 ·rintro ⟨⟨h1,h2,h3⟩,h4⟩
  refine ⟨h1,?_,h2⟩
  by_cases h48:(digs t).headD 0=48
  ·right
   rcases h3 with h3 | h3
   ·have e:=aI4 h3 h48
    have hn:¬t.headD 0=45:=fun q=>h4 ⟨q,e⟩
    unfold digs at e
    rw[if_neg hn] at e
    exact e
   ·exact absurd h48 h3
  ·exact .inl h48
theorem aI5 (d:List UInt8):(d=decDigits (aD d)∧2≤aD d)↔okD d∧¬d= [48]∧¬d= [49]:=by
 rw[gM]
 constructor
 ·rintro ⟨h1,h2⟩
  have hd:∀c∈d,aT c:=fun c hc=>by rw[h1] at hc;exact fR _ _ hc
  have hne:d≠ []:=fun e=>by rw[e] at h2;exact absurd h2 (by decide)
  refine ⟨⟨hne,hd,?_⟩,fun e=>by rw[e] at h2;exact absurd h2 (by decide),fun e=>by rw[e] at h2;exact absurd h2 (by decide)⟩
  right
  rw[h1]
  exact nR _ (by omega)
 ·rintro ⟨⟨h1,h2,h3⟩,h4,h5⟩
  have e:=lD d.length d rfl h1 h2 h3
  refine ⟨e.symm,?_⟩
  apply Classical.byContradiction
  intro hn
  have:aD d=0∨aD d=1:=by omega
  rcases this with h | h
  ·rw[h,cB (by omega)] at e;exact h4 e.symm
  ·rw[h,cB (by omega)] at e;exact h5 e.symm
theorem kL:∀s:List UInt8,Go.Lib.indexByte s 47=if botS s= [] then -1 else ((topS s).length:Int)
 | []=>rfl
 | c::r=>by
  have ih:=kL r
  by_cases h:c=47
  ·subst h
   simp[Go.Lib.indexByte,botS,topS]
  ·have e1:botS (c::r)=botS r:=by simp[botS,h]
   have e2:topS (c::r)=c::topS r:=by simp[topS,h]
   rw[e1,e2]
   simp only[Go.Lib.indexByte]
   rw[ih]
   by_cases hb:botS r= []
   ·simp[hb,h]
   ·simp[hb,h]
theorem rL (s:List UInt8):topS s++botS s=s:=List.takeWhile_append_dropWhile
theorem aM9 (s:List UInt8):s.take (topS s).length=topS s:=by
 have:=List.take_left (l₁:=topS s) (l₂:=botS s)
 rwa [rL] at this
theorem aNa (s:List UInt8):s.drop (topS s).length=botS s:=by
 have:=List.drop_left (l₁:=topS s) (l₂:=botS s)
 rwa [rL] at this
end IB
end
section
open Go Go.Proofs Go.Eng Go.Shelf IB Go.Lib Go.RowKit
namespace RB
set_option maxRecDepth 10000
set_option linter.unusedVariables false
set_option linter.unusedSimpArgs false
theorem b105 (a b:Int) (h:(0≤a∧a≤4000000000000000000)∧(0≤b∧b≤4000000000000000000)):body Tryz.prog [] { asks:=[(0,[])] } true Tryz.f173 [I a,I b] (I (Int.gcd a b)):=by
 obtain ⟨ha,hb⟩:=h
 skip
 refine Ask.mk ⟨{ X:=Int × Int,pre:=fun z=>Int.gcd z.1 z.2=Int.gcd a b∧(0≤z.1∧z.1≤4000000000000000000)∧(0≤z.2∧z.2≤4000000000000000000),mod:=fun z _=>[(0,I z.1),(1,I z.2)],heap:=fun _ _=>[],mu:=fun z=>z.2.natAbs },rfl,?_⟩
 (repeat'((conv=>whnf);first|refine Zn ?_|fail))
 refine ⟨⟨(a,b),⟨rfl,ha,hb⟩,by (repeat'(first|exact trivial|rfl|refine And.intro ?_ ?_|fail))⟩,fun (z:Int × Int) hz=>?_⟩
 obtain ⟨z1,z2,z3⟩:=hz
 skip
 (refine Br.mk (fun _=>?_) (fun _=>?_))
 ·rename_i hy
  have hm:(z.1.tmod z.2).natAbs<z.2.natAbs:=by rw[Int.natAbs_tmod];exact Nat.mod_lt _ (by omega)
  have hm0:0≤z.1.tmod z.2:=Int.tmod_nonneg _ z2.1
  (repeat'((conv=>whnf);first|refine Za ?_|(apply Pin.mk;apply Exists.intro)|apply Pinned.mk rfl rfl|fail))
  (conv=>whnf)
  refine ⟨(z.2,z.1.tmod z.2),hm,⟨by rw[← z1];exact rM _ _,z3,hm0,by show z.1.tmod z.2≤ _;omega⟩,?_⟩
  (repeat'(first|exact trivial|rfl|refine And.intro ?_ ?_|fail))
  exact (Int.tmod_eq_emod_of_nonneg z2.1).symm
 ·rename_i hy
  have hy:z.2=0:=by omega
  have hg:((Int.gcd a b:Nat):Int)=z.1:=by
   rw[← z1,hy,Int.gcd_zero_right]
   omega
  rw[hg]
  skip
  (conv=>whnf)
  (repeat'(first|rfl|refine And.intro ?_ ?_|fail))
def c105:Con:=aJ 173 true fun args K=>match args with | [.val (.int .i64 a),.val (.int .i64 b)]=>Need ((0≤a∧a≤4000000000000000000)∧(0≤b∧b≤4000000000000000000)) (K (I (Int.gcd a b))) | _=>False
theorem k105:aF Tryz.prog c105:=by
 refine aC rfl (enters_of Tryz.func173 (by kernel_rfl) rfl) ?_
 intro args K h
 simp only[c105] at h
 split at h
 ·rename_i a b;exact ⟨_,h.go,aA (Γ:=[]) (by simp) Tryz.func173 (by simp[Tryz.ntmps173]) rfl (b105 a b h.ok)⟩
 ·exact h.elim
theorem aPe {P:Program} {fr:Bool} {f:FuncId} {s:List UInt8} {r:List SV} {x:SV} (h:s.length≤140737488355328→Tri P fr f (.str s::r) x):Tri P fr f (.str s::r) x:=by
 intro ok w vs hg hok hr
 cases hr with
 | cons _ v1 _ vs1 h1 hr=>
 cases h1 with
 | str _ hl=>exact h hl ok w _ hg hok (.cons _ _ _ _ (.str _ hl) hr)
theorem aJa (s:List UInt8): -1≤Lib.indexByte s 47∧Lib.indexByte s 47≤s.length:=by
 rw[kL]
 split
 ·omega
 ·have:=congrArg List.length (rL s)
  rw[List.length_append] at this
  omega
theorem t170 (s:List UInt8):Tri Tryz.prog true 261 [S s,S [47]] (I (Lib.indexByte s 47)):=by
 intro ok w vs hg hok hr
 cases hr with
 | cons _ v1 _ vs1 h1 hr=>
 cases h1 with
 | str _ hl=>
 obtain ⟨rfl,_⟩:=rQ hr
 have hl':s.length≤140737488355328:=hl
 have hb:=aJa s
 refine (Any.stringslite_Index_one RL.lX ⟨s.toArray⟩ 47 w).mono ?_
 rintro e w' ⟨rfl,rfl⟩
 have hw:WV (.int .i64 (Lib.indexByte s 47)):=by constructor<;>simp only[lo,hi]<;>omega
 exact ⟨_,rfl,Below.refl _ _,.val _ hw⟩
def c170:Con:=aJ 261 true fun args K=>match args with | [.str s,.str p]=>Need (p= [47]) (K (I (Lib.indexByte s 47))) | _=>False
theorem k170:aF Tryz.prog c170:=by
 refine aC rfl (enters_of Tryz.func261 (by kernel_rfl) rfl) ?_
 intro args K h
 simp only[c170] at h
 split at h
 ·obtain ⟨rfl,h⟩:=h
  exact ⟨_,h,t170 _⟩
 ·exact h.elim
theorem b154 (s:List UInt8) (hl:s.length≤140737488355328):body Tryz.prog [c170] {} true Tryz.f238 [S s,S [47]] (.tup [S (topS s),S (botS s).tail,.bl (botS s≠ []) inferInstance]):=by
 have hb:=aJa s
 have hi:=kL s
 have htb:=congrArg List.length (rL s)
 rw[List.length_append] at htb
 (repeat'((conv=>whnf);first|refine Zn ?_|fail))
 (refine Br.mk (fun _=>?_) (fun _=>?_))
 ·rename_i h
  by_cases hbn:botS s= []
  ·rw[if_pos hbn] at hi;omega
  ·rw[if_neg hbn] at hi
   have hpos:=List.length_pos_iff.2 hbn
   rw[hi]
   (repeat'((conv=>whnf);first|refine Zg fun _=>?_|refine Zn ?_|refine Zj ?_|(apply Pin.mk;apply Exists.intro)|apply Pinned.mk rfl rfl|fail))
   (conv=>whnf)
   (repeat'(first|exact trivial|refine And.intro ?_ ?_|fail))
   ·exact aM9 s
   ·show s.drop ((topS s).length+1)=(botS s).tail
    rw[← List.drop_drop,aNa,List.drop_one]
   ·exact hbn
 ·rename_i h
  have hbn:botS s= []:=by
   refine Classical.byContradiction fun hx=>?_
   rw[if_neg hx] at hi;omega
  have ht:topS s=s:=by have:=rL s;rw[hbn,List.append_nil] at this;exact this
  skip
  (conv=>whnf)
  (repeat'(first|exact trivial|refine And.intro ?_ ?_|fail))
  ·exact ht.symm
  ·show ([]:List UInt8)= _
   rw[hbn];rfl
  ·exact fun hx=>hx hbn
def c154:Con:=aJ 238 true fun args K=>match args with | [.str s,.str p]=>Need (p= [47]) (K (.tup [S (topS s),S (botS s).tail,.bl (botS s≠ []) inferInstance])) | _=>False
theorem k154:aF Tryz.prog c154:=by
 refine aC rfl (enters_of Tryz.func238 (by kernel_rfl) rfl) ?_
 intro args K h
 simp only[c154] at h
 split at h
 ·obtain ⟨rfl,h⟩:=h
  exact ⟨_,h,aPe fun hl=>aA (Γ:=[c170]) (by simp[k170]) Tryz.func238 (by simp[Tryz.ntmps238]) rfl (b154 _ hl)⟩
 ·exact h.elim
theorem b122 (s:List UInt8):body Tryz.prog [c154] {} true Tryz.f212 [S s,S [47]] (.tup [S (topS s),S (botS s).tail,.bl (botS s≠ []) inferInstance]):=by
 (repeat'((conv=>whnf);first|refine Zn ?_|fail))
 (conv=>whnf)
 (repeat'(first|exact trivial|rfl|refine And.intro ?_ ?_|fail))
def c122:Con:=aJ 212 true fun args K=>match args with | [.str s,.str p]=>Need (p= [47]) (K (.tup [S (topS s),S (botS s).tail,.bl (botS s≠ []) inferInstance])) | _=>False
theorem k122:aF Tryz.prog c122:=by
 refine aC rfl (enters_of Tryz.func212 (by kernel_rfl) rfl) ?_
 intro args K h
 simp only[c122] at h
 split at h
 ·obtain ⟨rfl,h⟩:=h
  exact ⟨_,h,aA (Γ:=[c154]) (by simp[k154]) Tryz.func212 (by simp[Tryz.ntmps212]) rfl (b122 _)⟩
 ·exact h.elim
theorem xO (s:List UInt8) (i:Nat):(48≤aK s i∧aK s i≤57)↔aT (s.getD i 0):=by
 unfold aK aT;omega
theorem sO (s:List UInt8):aK s 0=48↔s.headD 0=48:=by
 unfold aK
 have e:s.getD 0 0=s.headD 0:=by cases s<;>rfl
 rw[e]
 constructor
 ·intro h
  have:(s.headD 0).toNat=(48:UInt8).toNat:=by show _=48;omega
  exact UInt8.toNat.inj this
 ·intro h;rw[h];rfl
theorem b124 (s:List UInt8):body Tryz.prog [] { asks:=[(0,[])] } true Tryz.f213 [S s] (I (dgsN s)):=by
 skip
 refine Ask.mk ⟨{ X:=Nat,pre:=fun n=>n≤s.length∧∀i,i<n→aT (s.getD i 0),mod:=fun n _=>[(3,I n)],heap:=fun _ _=>[],mu:=fun n=>s.length-n },rfl,?_⟩
 (repeat'((conv=>whnf);first|refine Zn ?_|fail))
 refine ⟨⟨(0:Nat),⟨Nat.zero_le _,fun i hi=>absurd hi (Nat.not_lt_zero _)⟩,by (repeat'(first|exact trivial|rfl|refine And.intro ?_ ?_|fail))⟩,fun (n:Nat) hn=>?_⟩
 obtain ⟨n1,n2⟩:=hn
 have hb:=xO s n
 have h0:=sO s
 by_cases hc:n<s.length∧48≤aK s n∧aK s n≤57
 ·(repeat'((conv=>whnf);first|refine Zg fun _=>?_|refine Zn ?_|refine Zj ?_|refine Zy ?_|fail))
  all_goals first | (exfalso;omega) | skip
  skip
  refine ⟨(n+1:Nat),by show s.length-(n+1)<s.length-n;omega,⟨by omega,fun i hi=>?_⟩,by (repeat'(first|exact trivial|rfl|refine And.intro ?_ ?_|fail))⟩
  by_cases e:i=n
  ·subst e;exact hb.1 hc.2
  ·exact n2 i (by omega)
 ·have hl:lead s=n:=rK s n n1 n2 (by
   by_cases e:n=s.length
   ·exact .inl e
   ·right
    rw[← hb];intro hx;exact hc ⟨by omega,hx⟩)
  have hd:(dgsN s:Int)=if 1<n∧aK s 0=48 then 0 else (n:Int):=by
   unfold dgsN
   rw[hl]
   by_cases q:1<n∧aK s 0=48
   ·rw[if_pos q,if_pos ⟨q.1,h0.1 q.2⟩];rfl
   ·rw[if_neg q,if_neg (fun hx=>q ⟨hx.1,h0.2 hx.2⟩)]
  (repeat'((conv=>whnf);first|refine Zg fun _=>?_|refine Zn ?_|refine Z0 ?_|refine Zj ?_|refine Zm ?_|refine Zr (fun _=>?_) fun _=>?_|fail))
  all_goals first | (exfalso;omega) | skip
  all_goals (skip;(conv=>whnf);(repeat'(first|rfl|refine And.intro ?_ ?_|fail)))
  all_goals (rw[hd];first | rw[if_pos (by omega)] | rw[if_neg (by omega)])
def c124:Con:=aJ 213 true fun args K=>match args with | [.str s]=>K (I (dgsN s)) | _=>False
theorem k124:aF Tryz.prog c124:=by
 refine aC rfl (enters_of Tryz.func213 (by kernel_rfl) rfl) ?_
 intro args K h
 simp only[c124] at h
 split at h
 ·rename_i s;exact ⟨_,h,aA (Γ:=[]) (by simp) Tryz.func213 (by simp[Tryz.ntmps213]) rfl (b124 s)⟩
 ·exact h.elim
theorem itoa_zero:itoa 0= [48]:=by
 unfold itoa
 rw[if_neg (by omega)]
 exact cB (show 0<10 by omega)
theorem b92 (x:Int) (hlx:(itoa x).length≤1000):body Tryz.prog [c123] {} true Tryz.f143 [S (itoa x)] (S (itoa (-x))):=by
 skip
 (refine Br.mk (fun _=>?_) (fun _=>?_))
 ·rename_i h
  have hx:x=0:=gL (by rw[itoa_zero];exact h)
  subst hx
  skip
  (conv=>whnf)
  (repeat'(first|rfl|fail))
 ·rename_i h
  have hx:x≠0:=fun e=>h (by rw[e,itoa_zero])
  have hh:=iD x
  have hd:=bR x
  (repeat'((conv=>whnf);first|refine Zn ?_|fail))
  (refine Br.mk (fun _=>?_) (fun _=>?_))
  ·rename_i hn
   have hn:=hh.1 hn
   have e:itoa (-x)=digs (itoa x):=by
    rw[hd]
    unfold itoa
    rw[if_neg (by omega)]
    congr 1;omega
   rw[e]
   skip
   (conv=>whnf)
   skip
  ·rename_i hn
   have hn:¬x<0:=fun e=>hn (hh.2 e)
   have e:itoa (-x)=45::itoa x:=by
    unfold itoa
    rw[if_pos (by omega),if_neg (by omega)]
    congr 2;omega
   rw[e]
   (repeat'((conv=>whnf);first|refine Zn ?_|fail))
   (conv=>whnf)
   (repeat'(first|rfl|fail))
def c92:Con:=aJ 143 true fun args K=>match args with | [.str s]=>Need (form s∧s.length≤1000) (K (S (itoa (-valI s)))) | _=>False
theorem k92:aF Tryz.prog c92:=by
 refine aC rfl (enters_of Tryz.func143 (by kernel_rfl) rfl) ?_
 intro args K h
 simp only[c92] at h
 split at h
 ·rename_i s
  obtain ⟨⟨h1,h2⟩,h⟩:=h
  refine ⟨_,h,?_⟩
  have e:=oN h1
  have:=aA (Γ:=[c123]) (by simp[k123]) Tryz.func143 (by simp[Tryz.ntmps143]) rfl (b92 (valI s) (by rw[← e];exact h2))
  rwa [← e] at this
 ·exact h.elim
def bot1 (s:List UInt8):List UInt8:=if botS s= [] then [49] else (botS s).tail
theorem tY (s:List UInt8):jA s↔(((dgsN (digs (topS s)):Int)≠0∧((digs (topS s)).length:Int)≤dgsN (digs (topS s)))∧¬((topS s).headD 0=45∧digs (topS s)= [48]))∧
  (botS s= []∨(((dgsN (botS s).tail:Int)≠0∧((botS s).tail.length:Int)≤dgsN (botS s).tail)∧¬(botS s).tail= [48]∧¬(botS s).tail= [49])):=by
 unfold jA
 rw[aFd]
 have e:∀d:List UInt8,okD d↔((dgsN d:Int)≠0∧(d.length:Int)≤dgsN d):=fun d=>by unfold okD;omega
 rw[e]
 refine and_congr Iff.rfl ?_
 by_cases hb:botS s= []
 ·simp[hb]
 ·have hd:denS s=aD (botS s).tail:=by unfold denS;rw[if_neg hb]
  rw[hd,aI5,e]
theorem b87y (s:List UInt8) (hf:jA s):body Tryz.prog [c122,c123,c124] {} true Tryz.f175 [S s] (.tup [.agg [S (topS s),S (bot1 s)],.val (.bool true)]):=by
 have hF:=(tY s).1 hf
 obtain ⟨⟨⟨f1,f2⟩,f3⟩,f4⟩:=hF
 unfold bot1
 (repeat'((conv=>whnf);first|refine Zg fun _=>?_|refine Zn ?_|refine Zm ?_|refine Zr (fun _=>?_) fun _=>?_|fail))
 all_goals first | (exfalso;omega) | skip
 all_goals first
  | (exfalso;simp_all;done)
  | (exfalso;simp_all;omega)
  | (skip;(conv=>whnf);(repeat'(first|exact trivial|rfl|refine And.intro ?_ ?_|fail));simp_all;exact @rfl (List UInt8) _)
theorem b87n (s:List UInt8) (hf:¬jA s):body Tryz.prog [c122,c123,c124] {} true Tryz.f175 [S s] (.tup [.agg [S [],S []],.val (.bool false)]):=by
 have hF:=fun h=>hf ((tY s).2 h)
 (repeat'((conv=>whnf);first|refine Zg fun _=>?_|refine Zn ?_|refine Zr (fun _=>?_) fun _=>?_|fail))
 all_goals first
  | (exfalso;simp_all;done)
  | (exfalso;simp_all;omega)
  | (skip;(conv=>whnf);(repeat'(first|exact trivial|rfl|refine And.intro ?_ ?_|fail));done)
  | (exfalso;refine hF ⟨⟨⟨by omega,by omega⟩,?_⟩,?_⟩
     ·first | exact fun hx=>absurd hx.2 (by assumption) | exact fun hx=>absurd hx.1 (by assumption)
     ·first | exact .inl (Classical.not_not.1 (by assumption)) | exact .inr ⟨⟨by omega,by omega⟩,by assumption,by assumption⟩)
def c87:Con:=aJ 175 true fun args K=>match args with
 | [.str s]=>Br (jA s) (K (.tup [.agg [S (topS s),S (bot1 s)],.val (.bool true)])) (K (.tup [.agg [S [],S []],.val (.bool false)]))
 | _=>False
theorem k87:aF Tryz.prog c87:=by
 refine aC rfl (enters_of Tryz.func175 (by kernel_rfl) rfl) ?_
 intro args K h
 simp only[c87] at h
 split at h
 ·rename_i s
  by_cases hf:jA s
  ·exact ⟨_,h.yes hf,aA (Γ:=[c122,c123,c124]) (by simp[k122,k123,k124]) Tryz.func175 (by simp[Tryz.ntmps175]) rfl (b87y s hf)⟩
  ·exact ⟨_,h.no hf,aA (Γ:=[c122,c123,c124]) (by simp[k122,k123,k124]) Tryz.func175 (by simp[Tryz.ntmps175]) rfl (b87n s hf)⟩
 ·exact h.elim
def tZ (s:List UInt8):Prop:=1≤lead s∧lead s≤8∧¬(1<lead s∧s.headD 0=48)
theorem aNi {s:List UInt8} {i:Nat} (hi:i≤s.length) (h:∀j,j<i→aT (s.getD j 0)):∀c∈s.take i,aT c:=by
 intro c hc
 obtain ⟨j,hj,rfl⟩:=List.getElem_of_mem hc
 rw[List.length_take] at hj
 have:=h j (by omega)
 rw[List.getD_eq_getElem?_getD,List.getElem?_eq_getElem (by omega)] at this
 simpa using this
theorem xP {s:List UInt8} {i:Nat} (hi:i<s.length) (hd:aT (s.getD i 0)):(aD (s.take (i+1)):Int)=10*aD (s.take i)+(aK s i-48):=by
 have e:s.take (i+1)=s.take i++ [s.getD i 0]:=by
  rw[List.take_succ_eq_append_getElem hi]
  simp[List.getD_eq_getElem?_getD,hi]
 rw[e,dC]
 unfold aK
 unfold aT at hd
 omega
theorem xQ {s:List UInt8} {i:Nat} (hi:i≤s.length) (h:∀j,j<i→aT (s.getD j 0)) (h9:i≤9):aD (s.take i)<1000000000:=by
 have h1:=cD (s.take i) (aNi hi h)
 have h2:(10:Nat)^ (s.take i).length≤10^9:=Nat.pow_le_pow_right (by omega) (by rw[List.length_take];omega)
 have h3:(10:Nat)^9=1000000000:=by decide
 omega
theorem aCs:∀(s:List UInt8) (n:Nat),n≤s.length→(∀i,i<n→aT (s.getD i 0))→n≤lead s
 | _,0,_,_=>Nat.zero_le _
 | [],n+1,h,_=>by simp at h
 | c::r,n+1,h1,h2=>by
  have hc:48≤c.toNat∧c.toNat≤57:=h2 0 (by omega)
  unfold lead
  rw[if_pos hc]
  have:=aCs r n (by simpa using h1) (fun i hi=>h2 (i+1) (by omega))
  omega
theorem b104y (s:List UInt8) (h:tZ s):body Tryz.prog [] { asks:=[(0,[])] } true Tryz.f172 [S s] (.tup [I (aD (s.take (lead s))),S (s.drop (lead s)),.val (.bool true)]):=by
 obtain ⟨o1,o2,o3⟩:=h
 rw[← sO] at o3
 skip
 refine Ask.mk ⟨{ X:=Nat,pre:=fun n=>n≤9∧n≤s.length∧∀i,i<n→aT (s.getD i 0),mod:=fun n _=>[(5,I (aD (s.take n))),(6,I n)],heap:=fun _ _=>[],mu:=fun n=>s.length-n },rfl,?_⟩
 (repeat'((conv=>whnf);first|refine Zn ?_|fail))
 refine ⟨⟨(0:Nat),⟨by omega,Nat.zero_le _,fun i hi=>absurd hi (Nat.not_lt_zero _)⟩,by (repeat'(first|exact trivial|rfl|refine And.intro ?_ ?_|fail))⟩,fun (n:Nat) hn=>?_⟩
 obtain ⟨n9,n1,n2⟩:=hn
 have hb:=xO s n
 have hv:=xQ n1 n2 n9
 have hge:=aCs s n n1 n2
 by_cases hc:n<s.length∧48≤aK s n∧aK s n≤57
 ·have hs:=xP hc.1 (hb.1 hc.2)
  (repeat'((conv=>whnf);first|refine Zg fun _=>?_|refine Zn ?_|refine Zj ?_|refine Zy ?_|fail))
  all_goals first | (exfalso;omega) | skip
  all_goals (skip;(conv=>whnf);refine ⟨(n+1:Nat),by show s.length-(n+1)<s.length-n;omega,⟨by omega,by omega,fun i hi=>by
     by_cases e:i=n
     ·subst e;exact hb.1 hc.2
     ·exact n2 i (by omega)⟩,?_⟩;(repeat'(first|exact trivial|rfl|refine And.intro ?_ ?_|omega|fail));done)
 ·have hl:lead s=n:=rK s n n1 n2 (by
   by_cases e:n=s.length
   ·exact .inl e
   ·right
    rw[← hb];intro hx;exact hc ⟨by omega,hx⟩)
  have hr:(.tup [I (aD (s.take (lead s))),S (s.drop (lead s)),.val (.bool true)]:SV)= .tup [I (aD (s.take n)),S (s.drop n),.val (.bool true)]:=by rw[hl]
  rw[hr]
  rw[hl] at o1 o2 o3
  (repeat'((conv=>whnf);first|refine Zg fun _=>?_|refine Zn ?_|refine Z0 ?_|refine Zj ?_|(apply Pin.mk;apply Exists.intro)|apply Pinned.mk rfl rfl|refine Zy ?_|refine Zm ?_|refine Zr (fun _=>?_) fun _=>?_|fail))
  all_goals first | (exfalso;omega) | skip
  all_goals (skip;(conv=>whnf);(repeat'(first|exact trivial|rfl|refine And.intro ?_ ?_|fail)))
theorem b104n (s:List UInt8) (h:¬tZ s):body Tryz.prog [] { asks:=[(0,[])] } true Tryz.f172 [S s] (.tup [I 0,S [],.val (.bool false)]):=by
 have h:¬(1≤lead s∧lead s≤8∧¬(1<lead s∧aK s 0=48)):=by rw[sO];exact h
 skip
 refine Ask.mk ⟨{ X:=Nat,pre:=fun n=>n≤9∧n≤s.length∧∀i,i<n→aT (s.getD i 0),mod:=fun n _=>[(5,I (aD (s.take n))),(6,I n)],heap:=fun _ _=>[],mu:=fun n=>s.length-n },rfl,?_⟩
 (repeat'((conv=>whnf);first|refine Zn ?_|fail))
 refine ⟨⟨(0:Nat),⟨by omega,Nat.zero_le _,fun i hi=>absurd hi (Nat.not_lt_zero _)⟩,by (repeat'(first|exact trivial|rfl|refine And.intro ?_ ?_|fail))⟩,fun (n:Nat) hn=>?_⟩
 obtain ⟨n9,n1,n2⟩:=hn
 have hb:=xO s n
 have hv:=xQ n1 n2 n9
 have hge:=aCs s n n1 n2
 by_cases hc:n<s.length∧48≤aK s n∧aK s n≤57
 ·have hs:=xP hc.1 (hb.1 hc.2)
  (repeat'((conv=>whnf);first|refine Zg fun _=>?_|refine Zn ?_|refine Zj ?_|refine Zy ?_|refine Zm ?_|refine Zr (fun _=>?_) fun _=>?_|fail))
  all_goals first | (exfalso;omega) | skip
  all_goals first | (skip;(conv=>whnf);refine ⟨(n+1:Nat),by show s.length-(n+1)<s.length-n;omega,⟨by omega,by omega,fun i hi=>by
     by_cases e:i=n
     ·subst e;exact hb.1 hc.2
     ·exact n2 i (by omega)⟩,?_⟩;(repeat'(first|exact trivial|rfl|refine And.intro ?_ ?_|omega|fail));done) | (skip;(conv=>whnf);(repeat'(first|exact trivial|rfl|refine And.intro ?_ ?_|fail));done)
 ·have hl:lead s=n:=rK s n n1 n2 (by
   by_cases e:n=s.length
   ·exact .inl e
   ·right
    rw[← hb];intro hx;exact hc ⟨by omega,hx⟩)
  rw[hl] at h
  (repeat'((conv=>whnf);first|refine Zg fun _=>?_|refine Zn ?_|refine Z0 ?_|refine Zj ?_|refine Zy ?_|refine Zm ?_|refine Zr (fun _=>?_) fun _=>?_|fail))
  all_goals first | (exfalso;omega) | skip
  all_goals (skip;(conv=>whnf);(repeat'(first|exact trivial|rfl|refine And.intro ?_ ?_|fail)))
theorem jP {s:List UInt8} (h:tZ s):s.take (lead s)=decDigits (aD (s.take (lead s)))∧aD (s.take (lead s))<100000000:=by
 obtain ⟨h1,h2,h3⟩:=h
 have hl:=aCr s
 have hd:=xL s
 have hlen:(s.take (lead s)).length=lead s:=by rw[List.length_take];omega
 have hh:(s.take (lead s)).headD 0=s.headD 0:=by
  cases s with
  | nil=>rfl
  | cons c r=>
   obtain ⟨k,hk⟩:∃k,lead (c::r)=k+1:=⟨lead (c::r)-1,by omega⟩
   rw[hk];rfl
 refine ⟨(lD _ _ rfl (fun e=>by rw[e] at hlen;simp at hlen;omega) hd ?_).symm,?_⟩
 ·rw[hlen,hh]
  by_cases h48:s.headD 0=48
  ·left
   have:¬1<lead s:=fun hx=>h3 ⟨hx,h48⟩
   omega
  ·exact .inr h48
 ·have h1:=cD (s.take (lead s)) hd
  have h2:(10:Nat)^ (s.take (lead s)).length≤10^8:=Nat.pow_le_pow_right (by omega) (by rw[hlen];omega)
  have h3:(10:Nat)^8=100000000:=by decide
  omega
def c104:Con:=aJ 172 true fun args K=>match args with
 | [.str s]=>Br (tZ s) (Giv (aD (s.take (lead s))<100000000) (K (.tup [I (aD (s.take (lead s))),S (s.drop (lead s)),.val (.bool true)]))) (K (.tup [I 0,S [],.val (.bool false)]))
 | _=>False
theorem k104:aF Tryz.prog c104:=by
 refine aC rfl (enters_of Tryz.func172 (by kernel_rfl) rfl) ?_
 intro args K h
 simp only[c104] at h
 split at h
 ·rename_i s
  by_cases hf:tZ s
  ·exact ⟨_,(h.yes hf).go (jP hf).2,aA (Γ:=[]) (by simp) Tryz.func172 (by simp[Tryz.ntmps172]) rfl (b104y s hf)⟩
  ·exact ⟨_,h.no hf,aA (Γ:=[]) (by simp) Tryz.func172 (by simp[Tryz.ntmps172]) rfl (b104n s hf)⟩
 ·exact h.elim
abbrev nvN (s:List UInt8):Nat:=aD ((digs s).take (lead (digs s)))
abbrev nvR (s:List UInt8):List UInt8:=(digs s).drop (lead (digs s))
abbrev nvD (s:List UInt8):Nat:=aD ((nvR s).tail.take (lead (nvR s).tail))
def nvOK (s:List UInt8):Prop:=tZ (digs s)∧¬(s.headD 0=45∧nvN s=0)∧(nvR s= []∨((nvR s).headD 0=47∧tZ (nvR s).tail∧(nvR s).tail.drop (lead (nvR s).tail)= []∧2≤nvD s∧Nat.gcd (nvN s) (nvD s)=1))
theorem aNj (s:List UInt8):s=(if s.headD 0=45 then [45] else [])++digs s:=by
 unfold digs
 by_cases h:s.headD 0=45
 ·rw[if_pos h,if_pos h]
  cases s with
  | nil=>simp at h
  | cons c r=>simp at h;rw[h];rfl
 ·rw[if_neg h,if_neg h];rfl
theorem aNk {p:Prop} [Decidable p] {n:Nat} (h:¬(p∧n=0)):itoa (sgP p n)=(if p then [45] else [])++decDigits n:=by
 unfold itoa sgP
 by_cases hp:p
 ·rw[if_pos hp,if_pos hp]
  have:n≠0:=fun e=>h ⟨hp,e⟩
  rw[if_pos (by omega)]
  show 45:: _=45:: _
  congr 2;omega
 ·rw[if_neg hp,if_neg hp,if_neg (by omega)]
  simp
theorem aRb {s:List UInt8} (h:nvOK s):∃q:Rat,s=numS q∧q.num=sgP (s.headD 0=45) (nvN s)∧(q.den:Int)=(if nvR s= [] then 1 else nvD s:Nat)∧nvN s<100000000∧q.den<100000000:=by
 obtain ⟨h1,h2,h3⟩:=h
 obtain ⟨a1,a2⟩:=jP h1
 have hs:=aNj s
 have ht:digs s=decDigits (nvN s)++nvR s:=by
  rw[← a1];exact (List.take_append_drop _ _).symm
 have hi:=aNk h2
 have hs2:s=itoa (sgP (s.headD 0=45) (nvN s))++nvR s:=by
  rw[hi,List.append_assoc,← ht];exact hs
 rcases h3 with h3 | ⟨b1,b2,b3,b4,b5⟩
 ·refine ⟨⟨sgP (s.headD 0=45) (nvN s),1,by decide,by simp⟩,?_,rfl,by rw[if_pos h3],a2,by show (1:Nat)< _;decide⟩
  unfold numS
  rw[if_pos rfl]
  rw[h3,List.append_nil] at hs2
  exact hs2
 ·have hne:nvR s≠ []:=fun e=>by rw[e] at b1;simp at b1
  obtain ⟨c1,c2⟩:=jP b2
  have hr:nvR s=47::decDigits (nvD s):=by
   cases hq:nvR s with
   | nil=>exact absurd hq hne
   | cons c r=>
    have hc:c=47:=by rw[hq] at b1;simpa using b1
    have ht2:(nvR s).tail=r:=by rw[hq];rfl
    rw[← ht2,hc]
    congr 1
    rw[← c1]
    have:=List.take_append_drop (lead (nvR s).tail) (nvR s).tail
    rw[b3,List.append_nil] at this
    exact this.symm
  refine ⟨⟨sgP (s.headD 0=45) (nvN s),nvD s,by omega,?_⟩,?_,rfl,by rw[if_neg hne],a2,c2⟩
  ·rw[mL];exact b5
  ·unfold numS
   rw[if_neg (by show ¬nvD s=1;omega)]
   show s=itoa _++47::decDigits (nvD s)
   rw[← hr];exact hs2
theorem cT {s:List UInt8} (h:nvOK s):s=numS (valQ s)∧(valQ s).num=sgP (s.headD 0=45) (nvN s)∧((valQ s).den:Int)=(if nvR s= [] then 1 else nvD s:Nat)∧(valQ s).num.natAbs<100000000∧(valQ s).den<100000000:=by
 obtain ⟨q,q1,q2,q3,q4,q5⟩:=aRb h
 have e:valQ s=q:=by rw[q1];exact bV q
 rw[e]
 exact ⟨q1,q2,q3,by rw[q2,mL];exact q4,q5⟩
theorem jQ (s:List UInt8) (c:UInt8):aK s 0=c.toNat↔s.headD 0=c:=by
 unfold aK
 have e:s.getD 0 0=s.headD 0:=by cases s<;>rfl
 rw[e]
 constructor
 ·intro h
  exact UInt8.toNat.inj (by omega)
 ·intro h;rw[h]
theorem b68y (s:List UInt8) (h:nvOK s):body Tryz.prog [c104,c105] {} true Tryz.f115 [S s] (.tup [.agg [I (sgP (s.headD 0=45) (nvN s)),I (if nvR s= [] then 1 else nvD s:Nat)],.val (.bool true)]):=by
 obtain ⟨h1,h2,h3⟩:=h
 have hb:aK s 0=45↔s.headD 0=45:=jQ s 45
 have hd8:=(jP h1).2
 unfold sgP
 by_cases hn:s.headD 0=45
 ·rw[if_pos hn]
  have hb0:aK s 0=45:=hb.2 hn
  have hs0:¬s= []:=fun e=>by rw[e] at hn;simp at hn
  have hlen:(s.drop 1).length=s.length-1:=List.length_drop
  have hpos:=List.length_pos_iff.2 hs0
  have hdg:digs s=s.drop 1:=by unfold digs;rw[if_pos hn,List.drop_one]
  have hN:nvN s≠0:=fun e=>h2 ⟨hn,e⟩
  simp only[nvN,nvR,nvD,hdg] at*
  rcases h3 with h3 | ⟨d1,d2,d3,d4,d5⟩
  ·skip
   rw[if_pos h3]
   (repeat'((conv=>whnf);first|refine Zg fun _=>?_|refine Zn ?_|refine Z0 ?_|refine Z1 ?_|refine Zy ?_|refine Zm ?_|fail))
   (conv=>whnf)
   (repeat'(first|exact trivial|rfl|refine And.intro ?_ ?_|fail))
  ·skip
   have hR:¬List.drop (lead (List.drop 1 s)) (List.drop 1 s)= []:=fun e=>by rw[e] at d1;simp at d1
   have hRp:=List.length_pos_iff.2 hR
   have hb47:aK (List.drop (lead (List.drop 1 s)) (List.drop 1 s)) 0=47:=(jQ _ 47).2 d1
   rw[← List.drop_one] at d2 d3 d4 d5
   have hg:((Int.gcd ((aD (List.take (lead (List.drop 1 s)) (List.drop 1 s)):Nat):Int) ((aD (List.take (lead (List.drop 1 (List.drop (lead (List.drop 1 s)) (List.drop 1 s)))) (List.drop 1 (List.drop (lead (List.drop 1 s)) (List.drop 1 s)))):Nat):Int):Nat):Int)=1:=by rw[Int.gcd_natCast_natCast,d5];rfl
   have hd9:=(jP d2).2
   rw[if_neg hR,← List.drop_one]
   (repeat'((conv=>whnf);first|refine Zg fun _=>?_|refine Zn ?_|refine Z0 ?_|refine Z1 ?_|refine Zy ?_|refine Zm ?_|fail))
   (conv=>whnf)
   (repeat'(first|exact trivial|rfl|refine And.intro ?_ ?_|fail))
 ·rw[if_neg hn]
  have hb0:¬aK s 0=45:=fun e=>hn (hb.1 e)
  have hs0:¬s= []:=fun e=>by rw[e] at h1;exact absurd h1.1 (by decide)
  have hpos:=List.length_pos_iff.2 hs0
  have hdg:digs s=s:=by unfold digs;rw[if_neg hn]
  simp only[nvN,nvR,nvD,hdg] at*
  rcases h3 with h3 | ⟨d1,d2,d3,d4,d5⟩
  ·skip
   rw[if_pos h3]
   (repeat'((conv=>whnf);first|refine Zg fun _=>?_|refine Zn ?_|refine Z0 ?_|refine Zy ?_|refine Zm ?_|fail))
   (conv=>whnf)
   (repeat'(first|exact trivial|rfl|refine And.intro ?_ ?_|fail))
  ·skip
   have hR:¬List.drop (lead s) s= []:=fun e=>by rw[e] at d1;simp at d1
   have hRp:=List.length_pos_iff.2 hR
   have hb47:aK (List.drop (lead s) s) 0=47:=(jQ _ 47).2 d1
   rw[← List.drop_one] at d2 d3 d4 d5
   have hg:((Int.gcd ((aD (List.take (lead s) s):Nat):Int) ((aD (List.take (lead (List.drop 1 (List.drop (lead s) s))) (List.drop 1 (List.drop (lead s) s))):Nat):Int):Nat):Int)=1:=by rw[Int.gcd_natCast_natCast,d5];rfl
   have hd9:=(jP d2).2
   rw[if_neg hR,← List.drop_one]
   (repeat'((conv=>whnf);first|refine Zg fun _=>?_|refine Zn ?_|refine Z0 ?_|refine Z1 ?_|refine Zy ?_|refine Zm ?_|fail))
   (conv=>whnf)
   (repeat'(first|exact trivial|rfl|refine And.intro ?_ ?_|fail))
theorem b68n (s:List UInt8) (h:¬nvOK s):body Tryz.prog [c104,c105] {} true Tryz.f115 [S s] (.tup [.agg [I 0,I 0],.val (.bool false)]):=by
 have hb:aK s 0=45↔s.headD 0=45:=jQ s 45
 unfold nvOK at h
 by_cases hn:s.headD 0=45
 ·have hb0:aK s 0=45:=hb.2 hn
  have hs0:¬s= []:=fun e=>by rw[e] at hn;simp at hn
  have hlen:(s.drop 1).length=s.length-1:=List.length_drop
  have hpos:=List.length_pos_iff.2 hs0
  have hdg:digs s=s.drop 1:=by unfold digs;rw[if_pos hn,List.drop_one]
  simp only[nvN,nvR,nvD,hdg,← List.drop_one] at h
  (repeat'((conv=>whnf);first|refine Zg fun _=>?_|refine Zn ?_|refine Z0 ?_|refine Z1 ?_|refine Zy ?_|fail))
  (refine Br.mk (fun _=>?_) (fun _=>?_))
  ·rename_i hk
   (repeat'((conv=>whnf);first|refine Zg fun _=>?_|refine Zy ?_|fail))
   (refine Br.mk (fun _=>?_) (fun _=>?_))
   ·rename_i hN
    skip
    (conv=>whnf)
    (repeat'(first|exact trivial|rfl|refine And.intro ?_ ?_|fail))
   ·rename_i hN
    skip
    (refine Br.mk (fun _=>?_) (fun _=>?_))
    ·rename_i hR
     have hRp:=List.length_pos_iff.2 hR
     (repeat'((conv=>whnf);first|refine Zg fun _=>?_|refine Zn ?_|refine Z0 ?_|fail))
     (refine Br.mk (fun _=>?_) (fun _=>?_))
     ·rename_i hc
      skip
      (conv=>whnf)
      (repeat'(first|exact trivial|rfl|refine And.intro ?_ ?_|fail))
     ·rename_i hc
      have hc:=(jQ _ 47).1 (Classical.not_not.1 hc)
      (repeat'((conv=>whnf);first|refine Zn ?_|refine Z1 ?_|fail))
      (refine Br.mk (fun _=>?_) (fun _=>?_))
      ·rename_i hk2
       (repeat'((conv=>whnf);first|refine Zg fun _=>?_|fail))
       (refine Br.mk (fun _=>?_) (fun _=>?_))
       ·rename_i he
        skip
        (conv=>whnf)
        (repeat'(first|exact trivial|rfl|refine And.intro ?_ ?_|fail))
       ·rename_i he
        have he:=Classical.not_not.1 he
        skip
        (refine Br.mk (fun _=>?_) (fun _=>?_))
        ·rename_i h2d
         skip
         (conv=>whnf)
         (repeat'(first|exact trivial|rfl|refine And.intro ?_ ?_|fail))
        ·rename_i h2d
         (repeat'((conv=>whnf);first|refine Zn ?_|fail))
         (refine Br.mk (fun _=>?_) (fun _=>?_))
         ·rename_i hg
          skip
          (conv=>whnf)
          (repeat'(first|exact trivial|rfl|refine And.intro ?_ ?_|fail))
         ·rename_i hg
          exfalso
          have hg:=Classical.not_not.1 hg
          rw[Int.gcd_natCast_natCast] at hg
          exact h ⟨hk,(fun hx=>hN (by omega)),.inr ⟨hc,hk2,he,by omega,by omega⟩⟩
      ·rename_i hk2
       skip
       (conv=>whnf)
       (repeat'(first|exact trivial|rfl|refine And.intro ?_ ?_|fail))
    ·rename_i hR
     exfalso
     exact h ⟨hk,(fun hx=>hN (by omega)),.inl (Classical.not_not.1 hR)⟩
  ·rename_i hk
   skip
   (conv=>whnf)
   (repeat'(first|exact trivial|rfl|refine And.intro ?_ ?_|fail))
 ·have hb0:¬aK s 0=45:=fun e=>hn (hb.1 e)
  have hdg:digs s=s:=by unfold digs;rw[if_neg hn]
  simp only[nvN,nvR,nvD,hdg,← List.drop_one] at h
  by_cases hs0:s= []
  ·subst hs0
   have hk:¬tZ []:=fun h=>absurd h.1 (by decide)
   (repeat'((conv=>whnf);first|refine Zm ?_|fail))
   (conv=>whnf)
   (repeat'(first|exact trivial|rfl|refine And.intro ?_ ?_|fail))
  ·have hpos:=List.length_pos_iff.2 hs0
   (repeat'((conv=>whnf);first|refine Zg fun _=>?_|refine Zn ?_|refine Z0 ?_|refine Zy ?_|refine Zm ?_|fail))
   (refine Br.mk (fun _=>?_) (fun _=>?_))
   ·rename_i hk
    (repeat'((conv=>whnf);first|refine Zg fun _=>?_|refine Zm ?_|fail))
    skip
    (refine Br.mk (fun _=>?_) (fun _=>?_))
    ·rename_i hR
     have hRp:=List.length_pos_iff.2 hR
     (repeat'((conv=>whnf);first|refine Zg fun _=>?_|refine Zn ?_|refine Z0 ?_|fail))
     (refine Br.mk (fun _=>?_) (fun _=>?_))
     ·rename_i hc
      skip
      (conv=>whnf)
      (repeat'(first|exact trivial|rfl|refine And.intro ?_ ?_|fail))
     ·rename_i hc
      have hc:=(jQ _ 47).1 (Classical.not_not.1 hc)
      (repeat'((conv=>whnf);first|refine Zn ?_|refine Z1 ?_|fail))
      (refine Br.mk (fun _=>?_) (fun _=>?_))
      ·rename_i hk2
       (repeat'((conv=>whnf);first|refine Zg fun _=>?_|fail))
       (refine Br.mk (fun _=>?_) (fun _=>?_))
       ·rename_i he
        skip
        (conv=>whnf)
        (repeat'(first|exact trivial|rfl|refine And.intro ?_ ?_|fail))
       ·rename_i he
        have he:=Classical.not_not.1 he
        skip
        (refine Br.mk (fun _=>?_) (fun _=>?_))
        ·rename_i h2d
         skip
         (conv=>whnf)
         (repeat'(first|exact trivial|rfl|refine And.intro ?_ ?_|fail))
        ·rename_i h2d
         (repeat'((conv=>whnf);first|refine Zn ?_|fail))
         (refine Br.mk (fun _=>?_) (fun _=>?_))
         ·rename_i hg
          skip
          (conv=>whnf)
          (repeat'(first|exact trivial|rfl|refine And.intro ?_ ?_|fail))
         ·rename_i hg
          exfalso
          have hg:=Classical.not_not.1 hg
          rw[Int.gcd_natCast_natCast] at hg
          exact h ⟨hk,(fun hx=>hn hx.1),.inr ⟨hc,hk2,he,by omega,by omega⟩⟩
      ·rename_i hk2
       skip
       (conv=>whnf)
       (repeat'(first|exact trivial|rfl|refine And.intro ?_ ?_|fail))
    ·rename_i hR
     exfalso
     exact h ⟨hk,(fun hx=>hn hx.1),.inl (Classical.not_not.1 hR)⟩
   ·rename_i hk
    skip
    (conv=>whnf)
    (repeat'(first|exact trivial|rfl|refine And.intro ?_ ?_|fail))
noncomputable instance (s:List UInt8):Decidable (nvOK s):=Classical.propDecidable _
def bU (s:List UInt8):Prop:=s=numS (valQ s)∧(valQ s).num.natAbs<100000000∧(valQ s).den<100000000
def c68:Con:=aJ 115 true fun args K=>match args with
 | [.str s]=>Br (nvOK s) (Giv (bU s) (K (.tup [.agg [I (valQ s).num,I (valQ s).den],.val (.bool true)]))) (K (.tup [.agg [I 0,I 0],.val (.bool false)]))
 | _=>False
theorem k68:aF Tryz.prog c68:=by
 refine aC rfl (enters_of Tryz.func115 (by kernel_rfl) rfl) ?_
 intro args K h
 simp only[c68] at h
 split at h
 ·rename_i s
  by_cases hf:nvOK s
  ·obtain ⟨v1,v2,v3,v4,v5⟩:=cT hf
   refine ⟨_,(h.yes hf).go ⟨v1,v4,v5⟩,?_⟩
   rw[v2,v3]
   exact aA (Γ:=[c104,c105]) (by simp[k104,k105]) Tryz.func115 (by simp[Tryz.ntmps115]) rfl (b68y s hf)
  ·exact ⟨_,h.no hf,aA (Γ:=[c104,c105]) (by simp[k104,k105]) Tryz.func115 (by simp[Tryz.ntmps115]) rfl (b68n s hf)⟩
 ·exact h.elim
theorem eB (n:Nat):itoa (n:Int)=decDigits n:=by
 unfold itoa
 rw[if_neg (by omega),Int.toNat_natCast]
theorem aFf {g d k:Nat} (h:g≤d) (hd:(decDigits d).length≤k+1):(decDigits g).length≤k+1:=by
 have h2:=cD (decDigits d) (fR _)
 rw[bW] at h2
 exact gK k g (Nat.lt_of_lt_of_le (Nat.lt_of_le_of_lt h h2) (Nat.pow_le_pow_right (by omega) hd))
theorem xR {s:List UInt8} (h:jA s):bot1 s=decDigits (denS s)∧1≤denS s∧(300<(bot1 s).length↔300<(botS s).tail.length):=by
 unfold bot1
 rcases h.2 with h | ⟨h1,h2⟩
 ·have hd:denS s=1:=by unfold denS;rw[if_pos h]
  rw[if_pos h,hd,h]
  exact ⟨(cB (show 1<10 by omega)).symm,Nat.le_refl _,by simp⟩
 ·have hb:botS s≠ []:=fun e=>by
   have hd:denS s=1:=by unfold denS;rw[if_pos e]
   omega
  rw[if_neg hb]
  exact ⟨h1,by omega,Iff.rfl⟩
theorem aFg {s:List UInt8} (h:s=numS (valQ s)) (h1:(digs (topS s)).length≤300) (h2:(botS s).tail.length≤300):chkQ s=0:=by
 have hf:jA s:=by rw[h];exact qC _
 have hg:(valI (topS s)).natAbs.gcd (denS s)=1:=by rw[h];exact aCq _
 unfold chkQ
 rw[if_pos hf,if_neg (by omega),if_pos hg]
theorem aAn {n:Nat} (h:n<100000000):(decDigits n).length≤8:=gK 7 n (by simpa using h)
theorem iI {s:List UInt8} (h:bU s):chkQ s=0:=by
 obtain ⟨h1,h2,h3⟩:=h
 refine aFg h1 ?_ ?_
 ·rw[h1,fM,bR]
  have:=aAn h2
  omega
 ·rw[h1,iZ]
  split
  ·simp
  ·have:=aAn h3
   simp;omega
theorem sP {s:List UInt8} (h:s=numS (valQ s)):topS s=itoa (valQ s).num∧bot1 s=decDigits (valQ s).den:=by
 have hf:jA s:=by rw[h];exact qC _
 have e:=(xR hf).1
 have ed:denS s=(valQ s).den:=(congrArg denS h).trans (rH _)
 rw[ed] at e
 exact ⟨(congrArg topS h).trans (fM _),e⟩
theorem aCt {d:Nat} (h:(decDigits d).length≤300):form (decDigits d)∧chkI (decDigits d)=0∧valI (decDigits d)=d:=by
 rw[← eB]
 refine ⟨eH _,?_,aO _⟩
 rw[gO (eH _),if_neg]
 rw[bR]
 simpa using h
noncomputable def rdV (s:List UInt8):SV:=if chkQ s=0 then .tup [.agg [S (itoa (valQ s).num),S (decDigits (valQ s).den)],I 0] else .tup [.agg [S [],S []],I (chkQ s)]
theorem b46 (s:List UInt8):body Tryz.prog [c87,c68,c88,c89] {} true Tryz.f117 [S s] (rdV s):=by
 skip
 (refine Br.mk (fun _=>?_) (fun _=>?_))
 ·rename_i hf
  obtain ⟨hb1,hb2,hb3⟩:=xR hf
  skip
  (refine Br.mk (fun _=>?_) (fun _=>?_))
  ·rename_i hn
   refine Giv.mk fun hs=>?_
   have h0:=iI hs
   obtain ⟨p1,p2⟩:=sP hs.1
   unfold rdV
   rw[if_pos h0,← p1,← p2]
   skip
   (conv=>whnf)
   (repeat'(first|exact trivial|rfl|refine And.intro ?_ ?_|fail))
  ·rename_i hn
   have hq:chkQ s=if 300<(digs (topS s)).length∨300<(bot1 s).length then 4 else if (valI (topS s)).natAbs.gcd (denS s)=1 then 0 else 11:=by
    unfold chkQ
    rw[if_pos hf]
    simp only[hb3]
   have hnum:(valI (topS s)).natAbs.gcd (denS s)=1→topS s=itoa (valQ s).num∧bot1 s=decDigits (valQ s).den:=fun hg=>sP (aIz hf hg)
   (repeat'((conv=>whnf);first|refine Zg fun _=>?_|refine Zn ?_|fail))
   (refine Br.mk (fun _=>?_) (fun _=>?_))
   ·rename_i hl
    have h4:chkQ s=4:=by rw[hq,if_pos (.inl (by omega))]
    unfold rdV
    rw[if_neg (by omega),h4]
    skip
    (conv=>whnf)
    (repeat'(first|exact trivial|rfl|refine And.intro ?_ ?_|fail))
   ·rename_i hl
    (repeat'((conv=>whnf);first|refine Zg fun _=>?_|fail))
    (refine Br.mk (fun _=>?_) (fun _=>?_))
    ·rename_i hl2
     have h4:chkQ s=4:=by rw[hq,if_pos (.inr (by omega))]
     unfold rdV
     rw[if_neg (by omega),h4]
     skip
     (conv=>whnf)
     (repeat'(first|exact trivial|rfl|refine And.intro ?_ ?_|fail))
    ·rename_i hl2
     rw[if_neg (by omega)] at hq
     skip
     (refine Br.mk (fun _=>?_) (fun _=>?_))
     ·rename_i h1
      have hd:denS s=1:=by
       rw[hb1] at h1
       have:=congrArg aD h1
       rw[bW] at this
       exact this
      have hg:(valI (topS s)).natAbs.gcd (denS s)=1:=by rw[hd];exact Nat.gcd_one_right _
      obtain ⟨p1,p2⟩:=hnum hg
      rw[if_pos hg] at hq
      unfold rdV
      rw[if_pos hq,← p1,← p2]
      skip
      (conv=>whnf)
      (repeat'(first|exact trivial|rfl|refine And.intro ?_ ?_|fail))
     ·rename_i h1
      obtain ⟨d1,d2,d3⟩:=aCt (d:=denS s) (by rw[← hb1];omega)
      have hct:chkI (topS s)=0:=by rw[gO hf.1,if_neg (by omega)]
      have hb:bB (topS s) (bot1 s) (resI (Int.gcd (valI (topS s)) (valI (bot1 s))))=(decDigits ((valI (topS s)).natAbs.gcd (denS s)),0):=by
       unfold bB chk2
       rw[hb1,hct,d2,d3,if_neg (by simp),show Int.gcd (valI (topS s)) (denS s:Int)=(valI (topS s)).natAbs.gcd (denS s) by unfold Int.gcd;simp]
       unfold resI lim
       rw[if_neg]
       ·rw[eB]
       ·have h3:(valI (topS s)).natAbs.gcd (denS s)≤denS s:=Nat.gcd_le_right _ (by omega)
        have h4:(decDigits (denS s)).length≤300:=by rw[← hb1];omega
        have h5:=aFf h3 (k:=299) h4
        simpa using h5
      have z1:=congrArg Prod.fst hb
      have z2:(bB (topS s) (bot1 s) (resI (Int.gcd (valI (topS s)) (valI (bot1 s))))).2=0:=congrArg Prod.snd hb
      (repeat'((conv=>whnf);first|refine Zm ?_|fail))
      (refine Br.mk (fun _=>?_) (fun _=>?_))
      ·rename_i hg
       rw[z1] at hg
       have hg1:(valI (topS s)).natAbs.gcd (denS s)≠1:=fun e=>hg (by rw[e];exact cB (show 1<10 by omega))
       rw[if_neg hg1] at hq
       unfold rdV
       rw[if_neg (by omega),hq]
       skip
       (conv=>whnf)
       (repeat'(first|exact trivial|rfl|refine And.intro ?_ ?_|fail))
      ·rename_i hg
       have hg:=Classical.not_not.1 hg
       rw[z1] at hg
       have hg1:(valI (topS s)).natAbs.gcd (denS s)=1:=by
        have:=congrArg aD hg
        rw[bW] at this
        exact this
       obtain ⟨p1,p2⟩:=hnum hg1
       rw[if_pos hg1] at hq
       unfold rdV
       rw[if_pos hq,← p1,← p2]
       skip
       (conv=>whnf)
       (repeat'(first|exact trivial|rfl|refine And.intro ?_ ?_|fail))
 ·rename_i hf
  have h11:chkQ s=11:=by unfold chkQ;rw[if_neg hf]
  unfold rdV
  rw[if_neg (by omega),h11]
  skip
  (conv=>whnf)
  (repeat'(first|exact trivial|rfl|refine And.intro ?_ ?_|fail))
def aJb (s:List UInt8):Prop:=s=numS (valQ s)∧(decDigits (valQ s).num.natAbs).length≤300∧(decDigits (valQ s).den).length≤300
theorem cQ {s:List UInt8} (h:chkQ s=0):aJb s:=by
 obtain ⟨h1,h2,h3⟩:=rI h
 have hf:jA s:=by rw[h1];exact qC _
 obtain ⟨p1,p2⟩:=sP h1
 refine ⟨h1,?_,?_⟩
 ·rw[p1,bR] at h2;exact h2
 ·have:=(xR hf).2.2
  rw[p2] at this
  omega
def c46:Con:=aJ 117 true fun args K=>match args with
 | [.str s]=>Br (chkQ s=0) (Giv (aJb s) (K (.tup [.agg [S (itoa (valQ s).num),S (decDigits (valQ s).den)],I 0]))) (K (.tup [.agg [S [],S []],I (chkQ s)]))
 | _=>False
theorem k46:aF Tryz.prog c46:=by
 refine aC rfl (enters_of Tryz.func117 (by kernel_rfl) rfl) ?_
 intro args K h
 simp only[c46] at h
 split at h
 ·rename_i s
  have ht:=aA (r:=rdV s) (Γ:=[c87,c68,c88,c89]) (by simp[k87,k68,k88,k89]) Tryz.func117 (by simp[Tryz.ntmps117]) (by unfold rdV;split<;>rfl) (b46 s)
  unfold rdV at ht
  by_cases hf:chkQ s=0
  ·rw[if_pos hf] at ht
   exact ⟨_,(h.yes hf).go (cQ hf),ht⟩
  ·rw[if_neg hf] at ht
   exact ⟨_,h.no hf,by
    cases hc:chkQ s with
    | _=>exact hc ▸ ht⟩
 ·exact h.elim
theorem aS {x:Int} (h:lim x=false):chkI (itoa x)=0:=by
 rw[gO (eH x),bR,if_neg]
 unfold lim at h
 simpa using h
theorem rN {x:Int} (h:chkI (itoa x)=0):lim x=false:=by
 rw[gO (eH x),bR] at h
 unfold lim
 split at h
 ·cases h
 ·rename_i hn
  exact decide_eq_false hn
theorem jG (x:Int):lim (-x)=lim x:=by unfold lim;rw[Int.natAbs_neg]
theorem iJ {x y:Int} (h:x.natAbs≤y.natAbs) (hy:lim y=false):lim x=false:=by
 unfold lim at hy ⊢
 have hy:(decDigits y.natAbs).length≤299+1:=by simpa using hy
 have:=aFf h hy
 simpa using this
theorem dY {x:Int} (h:lim x=false):(itoa x).length≤301:=by
 have h1:=(kB (itoa x)).2
 rw[bR] at h1
 unfold lim at h
 have h:(decDigits x.natAbs).length≤300:=by simpa using h
 omega
theorem xS {x y:Int} (hx:lim x=false) (hy:lim y=false) (h0:y≠0):bB (itoa x) (itoa y) (resI (Int.gcd (valI (itoa x)) (valI (itoa y))))=(itoa (Int.gcd x y),0):=by
 unfold bB chk2
 rw[aS hx,aS hy,if_neg (by simp),aO,aO]
 unfold resI
 have hg:lim ((Int.gcd x y:Nat):Int)=false:=by
  refine iJ (y:=y) ?_ hy
  rw[Int.natAbs_natCast]
  exact Nat.gcd_le_right _ (by omega)
 rw[hg];rfl
theorem uS {x y:Int} (hx:lim x=false) (hy:lim y=false) (h0:0<y) (hd:y ∣ x):divI (itoa x) (itoa y)=(itoa (x/y),itoa 0,0):=by
 unfold divI chk2
 rw[aS hx,aS hy,if_neg (by simp),if_neg (fun e=>by
  have:=gL (e.trans itoa_zero.symm);omega),aO,aO]
 have e1:x.fdiv y=x/y:=Int.fdiv_eq_ediv_of_nonneg _ (by omega)
 have e2:x.fmod y=0:=Int.fmod_eq_zero_of_dvd hd
 unfold dvI
 rw[e1,e2]
 have l1:lim (x/y)=false:=iJ (y:=x) (by
  obtain ⟨k,rfl⟩:=hd
  rw[Int.mul_ediv_cancel_left _ (by omega),Int.natAbs_mul]
  exact Nat.le_mul_of_pos_left _ (by omega)) hx
 have l2:lim 0=false:=by
  unfold lim
  rw[show (0:Int).natAbs=0 from rfl,cB (by omega)];rfl
 rw[l1,l2];rfl
theorem aCu {x y:Int} (h0:0<y):numS (mkRat x y.toNat)=if itoa (y/(Int.gcd x y:Nat))= [49] then itoa (x/(Int.gcd x y:Nat)) else itoa (x/(Int.gcd x y:Nat))++47::itoa (y/(Int.gcd x y:Nat)):=by
 obtain ⟨d,rfl⟩:=Int.eq_ofNat_of_zero_le (Int.le_of_lt h0)
 have hg:Int.gcd x (d:Int)=d.gcd x.natAbs:=by unfold Int.gcd;rw[Int.natAbs_natCast,Nat.gcd_comm]
 rw[Int.toNat_natCast,uQ _ _ (by omega),hg,← Int.natCast_ediv,eB]
 have e1:decDigits (d/d.gcd x.natAbs)= [49]↔d/d.gcd x.natAbs=1:=by
  constructor
  ·intro h
   have:=congrArg aD h
   rw[bW] at this
   exact this
  ·intro h;rw[h];exact cB (show 1<10 by omega)
 by_cases h:d/d.gcd x.natAbs=1
 ·rw[if_pos h,if_pos (e1.2 h)]
 ·rw[if_neg h,if_neg (fun hx=>h (e1.1 hx))]
theorem itoa_one:itoa 1= [49]:=by
 rw[show (1:Int)=((1:Nat):Int) from rfl,eB];exact cB (show 1<10 by omega)
theorem b52p (x y:Int) (hx:lim x=false) (hy:lim y=false) (h0:0<y):body Tryz.prog [c91,c92,c89,c69] {} true Tryz.f76 [S (itoa x),S (itoa y)] (.tup [S (numS (mkRat x y.toNat)),I 0]):=by
 have hh:=iD y
 have hneg:¬(itoa y).headD 0=45:=fun e=>by have:=hh.1 e;omega
 have hb:=xS hx hy (by omega)
 have z1:(bB (itoa x) (itoa y) (resI (Int.gcd (valI (itoa x)) (valI (itoa y))))).1=itoa (Int.gcd x y):=congrArg Prod.fst hb
 have z2:(bB (itoa x) (itoa y) (resI (Int.gcd (valI (itoa x)) (valI (itoa y))))).2=0:=congrArg Prod.snd hb
 have lx:=dY hx
 have ly:=dY hy
 have hm:=aCu (x:=x) h0
 obtain ⟨g,hg⟩:∃g,Int.gcd x y=g:=⟨_,rfl⟩
 have gx:(g:Int) ∣ x:=by rw[← hg];exact Int.gcd_dvd_left _ _
 have gy:(g:Int) ∣ y:=by rw[← hg];exact Int.gcd_dvd_right _ _
 have gp:0<g:=by rw[← hg];exact Int.gcd_pos_of_ne_zero_right _ (by omega)
 rw[hg] at z1 hm
 rw[hm]
 have lg:lim (g:Int)=false:=iJ (y:=y) (by rw[Int.natAbs_natCast,← hg];exact Nat.gcd_le_right _ (by omega)) hy
 have dx:=uS hx lg (by omega) gx
 have dy:=uS hy lg (by omega) gy
 have q1:(divI (itoa x) (itoa g)).1=itoa (x/g):=by rw[dx]
 have q2:(divI (itoa y) (itoa g)).1=itoa (y/g):=by rw[dy]
 (repeat'((conv=>whnf);first|refine Zn ?_|refine Zm ?_|fail))
 (refine Br.mk (fun _=>?_) (fun _=>?_))
 ·rename_i h1
  rw[z1,← q1,← q2]
  have l1:lim (x/g)=false:=iJ (y:=x) (by
   obtain ⟨k,rfl⟩:=gx
   rw[Int.mul_ediv_cancel_left _ (by omega),Int.natAbs_mul]
   exact Nat.le_mul_of_pos_left _ (by omega)) hx
  have l2:lim (y/g)=false:=iJ (y:=y) (by
   obtain ⟨k,rfl⟩:=gy
   rw[Int.mul_ediv_cancel_left _ (by omega),Int.natAbs_mul]
   exact Nat.le_mul_of_pos_left _ (by omega)) hy
  have m1:(divI (itoa x) (itoa g)).1.length≤301:=by rw[q1];exact dY l1
  have m2:(divI (itoa y) (itoa g)).1.length≤301:=by rw[q2];exact dY l2
  skip
  (refine Br.mk (fun _=>?_) (fun _=>?_))
  ·rename_i h2
   rw[if_pos h2]
   skip
   (conv=>whnf)
   (repeat'(first|exact trivial|rfl|refine And.intro ?_ ?_|fail))
  ·rename_i h2
   rw[if_neg h2]
   (repeat'((conv=>whnf);first|refine Zn ?_|fail))
   (conv=>whnf)
   (repeat'(first|exact trivial|rfl|refine And.intro ?_ ?_|fail))
   exact List.append_assoc _ [47] _
 ·rename_i h1
  have h1:=Classical.not_not.1 h1
  rw[z1] at h1
  have hg1:(g:Int)=1:=gL (h1.trans itoa_one.symm)
  rw[hg1,Int.ediv_one,Int.ediv_one]
  skip
  (refine Br.mk (fun _=>?_) (fun _=>?_))
  ·rename_i h2
   rw[if_pos h2]
   skip
   (conv=>whnf)
   (repeat'(first|exact trivial|rfl|refine And.intro ?_ ?_|fail))
  ·rename_i h2
   rw[if_neg h2]
   (repeat'((conv=>whnf);first|refine Zn ?_|fail))
   (conv=>whnf)
   (repeat'(first|exact trivial|rfl|refine And.intro ?_ ?_|fail))
   exact List.append_assoc _ [47] _
theorem b52n (x0 y0:Int) (hx0:lim x0=false) (hy0:lim y0=false) (h00:y0<0):body Tryz.prog [c91,c92,c89,c69] {} true Tryz.f76 [S (itoa x0),S (itoa y0)] (.tup [S (numS (mkRat (-x0) (-y0).toNat)),I 0]):=by
 have hh:=iD y0
 have hneg:(itoa y0).headD 0=45:=hh.2 h00
 have lx0:=dY hx0
 have ly0:=dY hy0
 obtain ⟨x,ex⟩:∃x, -x0=x:=⟨_,rfl⟩
 obtain ⟨y,ey⟩:∃y, -y0=y:=⟨_,rfl⟩
 have hx:lim x=false:=by rw[← ex,jG];exact hx0
 have hy:lim y=false:=by rw[← ey,jG];exact hy0
 have h0:0<y:=by omega
 rw[ex,ey]
 have hb:=xS hx hy (by omega)
 have z1:(bB (itoa x) (itoa y) (resI (Int.gcd (valI (itoa x)) (valI (itoa y))))).1=itoa (Int.gcd x y):=congrArg Prod.fst hb
 have z2:(bB (itoa x) (itoa y) (resI (Int.gcd (valI (itoa x)) (valI (itoa y))))).2=0:=congrArg Prod.snd hb
 have lx:=dY hx
 have ly:=dY hy
 have hm:=aCu (x:=x) h0
 obtain ⟨g,hg⟩:∃g,Int.gcd x y=g:=⟨_,rfl⟩
 have gx:(g:Int) ∣ x:=by rw[← hg];exact Int.gcd_dvd_left _ _
 have gy:(g:Int) ∣ y:=by rw[← hg];exact Int.gcd_dvd_right _ _
 have gp:0<g:=by rw[← hg];exact Int.gcd_pos_of_ne_zero_right _ (by omega)
 rw[hg] at z1 hm
 rw[hm]
 have lg:lim (g:Int)=false:=iJ (y:=y) (by rw[Int.natAbs_natCast,← hg];exact Nat.gcd_le_right _ (by omega)) hy
 have dx:=uS hx lg (by omega) gx
 have dy:=uS hy lg (by omega) gy
 have q1:(divI (itoa x) (itoa g)).1=itoa (x/g):=by rw[dx]
 have q2:(divI (itoa y) (itoa g)).1=itoa (y/g):=by rw[dy]
 (repeat'((conv=>whnf);first|refine Zn ?_|refine Zy ?_|fail))
 refine Need.mk ⟨eH _,by omega⟩ ?_
 rw[aO,ex]
 skip
 refine Need.mk ⟨eH _,by omega⟩ ?_
 rw[aO,ey]
 (repeat'((conv=>whnf);first|refine Zm ?_|fail))
 (refine Br.mk (fun _=>?_) (fun _=>?_))
 ·rename_i h1
  rw[z1,← q1,← q2]
  have l1:lim (x/g)=false:=iJ (y:=x) (by
   obtain ⟨k,rfl⟩:=gx
   rw[Int.mul_ediv_cancel_left _ (by omega),Int.natAbs_mul]
   exact Nat.le_mul_of_pos_left _ (by omega)) hx
  have l2:lim (y/g)=false:=iJ (y:=y) (by
   obtain ⟨k,rfl⟩:=gy
   rw[Int.mul_ediv_cancel_left _ (by omega),Int.natAbs_mul]
   exact Nat.le_mul_of_pos_left _ (by omega)) hy
  have m1:(divI (itoa x) (itoa g)).1.length≤301:=by rw[q1];exact dY l1
  have m2:(divI (itoa y) (itoa g)).1.length≤301:=by rw[q2];exact dY l2
  skip
  (refine Br.mk (fun _=>?_) (fun _=>?_))
  ·rename_i h2
   rw[if_pos h2]
   skip
   (conv=>whnf)
   (repeat'(first|exact trivial|rfl|refine And.intro ?_ ?_|fail))
  ·rename_i h2
   rw[if_neg h2]
   (repeat'((conv=>whnf);first|refine Zn ?_|fail))
   (conv=>whnf)
   (repeat'(first|exact trivial|rfl|refine And.intro ?_ ?_|fail))
   exact List.append_assoc _ [47] _
 ·rename_i h1
  have h1:=Classical.not_not.1 h1
  rw[z1] at h1
  have hg1:(g:Int)=1:=gL (h1.trans itoa_one.symm)
  rw[hg1,Int.ediv_one,Int.ediv_one]
  skip
  (refine Br.mk (fun _=>?_) (fun _=>?_))
  ·rename_i h2
   rw[if_pos h2]
   skip
   (conv=>whnf)
   (repeat'(first|exact trivial|rfl|refine And.intro ?_ ?_|fail))
  ·rename_i h2
   rw[if_neg h2]
   (repeat'((conv=>whnf);first|refine Zn ?_|fail))
   (conv=>whnf)
   (repeat'(first|exact trivial|rfl|refine And.intro ?_ ?_|fail))
   exact List.append_assoc _ [47] _
noncomputable def numQ (a b:List UInt8):List UInt8:=numS (Rat.divInt (valI a) (valI b))
def c52:Con:=aJ 76 true fun args K=>match args with
 | [.str a,.str b]=>Need (chkI a=0∧chkI b=0∧valI b≠0) (K (.tup [S (numQ a b),I 0]))
 | _=>False
theorem k52:aF Tryz.prog c52:=by
 refine aC rfl (enters_of Tryz.func76 (by kernel_rfl) rfl) ?_
 intro args K h
 simp only[c52] at h
 split at h
 ·rename_i a b
  obtain ⟨⟨h1,h2,h3⟩,h⟩:=h
  refine ⟨_,h,?_⟩
  have ea:=oN (bE h1).1
  have eb:=oN (bE h2).1
  have la:lim (valI a)=false:=rN (by rw[← ea];exact h1)
  have lb:lim (valI b)=false:=rN (by rw[← eb];exact h2)
  unfold numQ
  rcases Int.lt_or_gt_of_ne h3 with hn | hp
  ·have:=aA (Γ:=[c91,c92,c89,c69]) (by simp[k91,k92,k89,k69]) Tryz.func76 (by simp[Tryz.ntmps76]) rfl (b52n (valI a) (valI b) la lb hn)
   rw[← ea,← eb] at this
   rw[qD _ _ hn]
   exact this
  ·have:=aA (Γ:=[c91,c92,c89,c69]) (by simp[k91,k92,k89,k69]) Tryz.func76 (by simp[Tryz.ntmps76]) rfl (b52p (valI a) (valI b) la lb hp)
   rw[← ea,← eb] at this
   rw[dX _ _ hp]
   exact this
 ·exact h.elim
theorem rO {x:Int} (h:x.natAbs<1000000000000000000):(itoa x).length≤19:=by
 unfold itoa
 have h1:=gK 17 x.natAbs (by simpa using h)
 split
 ·simp only[List.length_cons];omega
 ·rename_i hx
  rw[show x.toNat=x.natAbs by omega];omega
theorem b90p (x y:Int) (hx:x.natAbs<1000000000000000000) (hy:y.natAbs<1000000000000000000) (h0:0<y):body Tryz.prog [c105,c61] {} true Tryz.f134 [.agg [I x,I y]] (S (numS (mkRat x y.toNat))):=by
 have hm:=aCu (x:=x) h0
 obtain ⟨g,hg⟩:∃g,Int.gcd x y=g:=⟨_,rfl⟩
 have gx:(g:Int) ∣ x:=by rw[← hg];exact Int.gcd_dvd_left _ _
 have gy:(g:Int) ∣ y:=by rw[← hg];exact Int.gcd_dvd_right _ _
 have gp:0<g:=by rw[← hg];exact Int.gcd_pos_of_ne_zero_right _ (by omega)
 have hgm:Int.gcd (max x (-x)) y=g:=by
  rw[← hg];unfold Int.gcd
  rw[show (max x (-x)).natAbs=x.natAbs by omega]
 rw[hg] at hm
 rw[hm]
 have t1:x.tdiv g=x/g:=Int.tdiv_eq_ediv_of_dvd gx
 have t2:y.tdiv g=y/g:=Int.tdiv_eq_ediv_of_dvd gy
 have b1:(x/g).natAbs≤x.natAbs:=by
  obtain ⟨k,rfl⟩:=gx
  rw[Int.mul_ediv_cancel_left _ (by omega),Int.natAbs_mul]
  exact Nat.le_mul_of_pos_left _ (by omega)
 have b2:(y/g).natAbs≤y.natAbs:=by
  obtain ⟨k,rfl⟩:=gy
  rw[Int.mul_ediv_cancel_left _ (by omega),Int.natAbs_mul]
  exact Nat.le_mul_of_pos_left _ (by omega)
 have m1:=rO (x:=x/g) (by omega)
 have m2:=rO (x:=y/g) (by omega)
 (repeat'((conv=>whnf);first|refine Zb ?_|refine Zn ?_|(apply Pin.mk;apply Exists.intro)|apply Pinned.mk rfl rfl|refine Zm ?_|fail))
 rw[hgm]
 (repeat'((conv=>whnf);first|refine Za ?_|refine Zn ?_|(apply Pin.mk;apply Exists.intro)|apply Pinned.mk rfl rfl|fail))
 rw[← t1]
 rw[← t1] at m1
 (refine Br.mk (fun _=>?_) (fun _=>?_))
 ·rename_i h1
  rw[if_pos (by rw[h1];exact itoa_one)]
  skip
  (conv=>whnf)
  skip
 ·rename_i h1
  rw[if_neg (fun e=>h1 (gL (e.trans itoa_one.symm)))]
  (repeat'((conv=>whnf);first|refine Zn ?_|fail))
  (conv=>whnf)
  skip
  exact List.append_assoc _ [47] _
theorem b90n (x0 y0:Int) (hx0:x0.natAbs<1000000000000000000) (hy0:y0.natAbs<1000000000000000000) (h00:y0<0):body Tryz.prog [c105,c61] {} true Tryz.f134 [.agg [I x0,I y0]] (S (numS (mkRat (-x0) (-y0).toNat))):=by
 obtain ⟨x,ex⟩:∃x, -x0=x:=⟨_,rfl⟩
 obtain ⟨y,ey⟩:∃y, -y0=y:=⟨_,rfl⟩
 have hx:x.natAbs<1000000000000000000:=by omega
 have hy:y.natAbs<1000000000000000000:=by omega
 have h0:0<y:=by omega
 rw[ex,ey]
 have hm:=aCu (x:=x) h0
 obtain ⟨g,hg⟩:∃g,Int.gcd x y=g:=⟨_,rfl⟩
 have gx:(g:Int) ∣ x:=by rw[← hg];exact Int.gcd_dvd_left _ _
 have gy:(g:Int) ∣ y:=by rw[← hg];exact Int.gcd_dvd_right _ _
 have gp:0<g:=by rw[← hg];exact Int.gcd_pos_of_ne_zero_right _ (by omega)
 have hgm:Int.gcd (max x (-x)) y=g:=by
  rw[← hg];unfold Int.gcd
  rw[show (max x (-x)).natAbs=x.natAbs by omega]
 rw[hg] at hm
 rw[hm]
 have t1:x.tdiv g=x/g:=Int.tdiv_eq_ediv_of_dvd gx
 have t2:y.tdiv g=y/g:=Int.tdiv_eq_ediv_of_dvd gy
 have b1:(x/g).natAbs≤x.natAbs:=by
  obtain ⟨k,rfl⟩:=gx
  rw[Int.mul_ediv_cancel_left _ (by omega),Int.natAbs_mul]
  exact Nat.le_mul_of_pos_left _ (by omega)
 have b2:(y/g).natAbs≤y.natAbs:=by
  obtain ⟨k,rfl⟩:=gy
  rw[Int.mul_ediv_cancel_left _ (by omega),Int.natAbs_mul]
  exact Nat.le_mul_of_pos_left _ (by omega)
 have m1:=rO (x:=x/g) (by omega)
 have m2:=rO (x:=y/g) (by omega)
 (repeat'((conv=>whnf);first|refine Zn ?_|(apply Pin.mk;apply Exists.intro)|apply Pinned.mk rfl rfl|refine .r ?_|refine Zy ?_|fail))
 rw[ex,ey,hgm]
 (repeat'((conv=>whnf);first|refine Za ?_|refine Zn ?_|(apply Pin.mk;apply Exists.intro)|apply Pinned.mk rfl rfl|fail))
 rw[← t1]
 rw[← t1] at m1
 (refine Br.mk (fun _=>?_) (fun _=>?_))
 ·rename_i h1
  rw[if_pos (by rw[h1];exact itoa_one)]
  skip
  (conv=>whnf)
  skip
 ·rename_i h1
  rw[if_neg (fun e=>h1 (gL (e.trans itoa_one.symm)))]
  (repeat'((conv=>whnf);first|refine Zn ?_|fail))
  (conv=>whnf)
  skip
  exact List.append_assoc _ [47] _
def c90:Con:=aJ 134 true fun args K=>match args with
 | [.agg [.val (.int .i64 x),.val (.int .i64 y)]]=>Need (x.natAbs<1000000000000000000∧y.natAbs<1000000000000000000∧y≠0) (K (S (numS (Rat.divInt x y))))
 | _=>False
theorem k90:aF Tryz.prog c90:=by
 refine aC rfl (enters_of Tryz.func134 (by kernel_rfl) rfl) ?_
 intro args K h
 simp only[c90] at h
 split at h
 ·rename_i x y
  obtain ⟨⟨h1,h2,h3⟩,h⟩:=h
  refine ⟨_,h,?_⟩
  rcases Int.lt_or_gt_of_ne h3 with hn | hp
  ·rw[qD _ _ hn]
   exact aA (Γ:=[c105,c61]) (by simp[k105,k61]) Tryz.func134 (by simp[Tryz.ntmps134]) rfl (b90n x y h1 h2 hn)
  ·rw[dX _ _ hp]
   exact aA (Γ:=[c105,c61]) (by simp[k105,k61]) Tryz.func134 (by simp[Tryz.ntmps134]) rfl (b90p x y h1 h2 hp)
 ·exact h.elim
theorem mul8 {a b:Int} (ha:a.natAbs<100000000) (hb:b.natAbs<100000000): -10000000000000000<a*b∧a*b<10000000000000000:=by
 have h:=Nat.mul_lt_mul'' ha hb
 rw[← Int.natAbs_mul] at h
 omega
abbrev n8 (a b c d:Int):Prop:=a.natAbs<100000000∧b.natAbs<100000000∧c.natAbs<100000000∧d.natAbs<100000000
theorem b53 (a b c d:Int) (h:n8 a b c d):body Tryz.prog [] {} true Tryz.f155 [.agg [I a,I b],.agg [I c,I d]] (.agg [I (a*d+c*b),I (b*d)]):=by
 obtain ⟨h1,h2,h3,h4⟩:=h
 have m1:=mul8 h1 h4
 have m2:=mul8 h3 h2
 have m3:=mul8 h2 h4
 have m4:=mul8 h1 h3
 have m5:=mul8 h2 h3
 (repeat'((conv=>whnf);first|refine Zn ?_|fail))
 (conv=>whnf)
 (repeat'(first|exact trivial|rfl|refine And.intro ?_ ?_|fail))
def c53:Con:=aJ 155 true fun args K=>match args with | [.agg [.val (.int .i64 a),.val (.int .i64 b)],.agg [.val (.int .i64 c),.val (.int .i64 d)]]=>Need (n8 a b c d) (K (.agg [I (a*d+c*b),I (b*d)])) | _=>False
theorem k53:aF Tryz.prog c53:=by
 refine aC rfl (enters_of Tryz.func155 (by kernel_rfl) rfl) ?_
 intro args K h
 simp only[c53] at h
 split at h
 ·rename_i a b c d;exact ⟨_,h.go,aA (Γ:=[]) (by simp) Tryz.func155 (by simp[Tryz.ntmps155]) rfl (b53 a b c d h.ok)⟩
 ·exact h.elim
theorem b59 (a b c d:Int) (h:n8 a b c d):body Tryz.prog [] {} true Tryz.f72 [.agg [I a,I b],.agg [I c,I d]] (.agg [I (a*d-c*b),I (b*d)]):=by
 obtain ⟨h1,h2,h3,h4⟩:=h
 have m1:=mul8 h1 h4
 have m2:=mul8 h3 h2
 have m3:=mul8 h2 h4
 have m4:=mul8 h1 h3
 have m5:=mul8 h2 h3
 (repeat'((conv=>whnf);first|refine Zn ?_|fail))
 (conv=>whnf)
 (repeat'(first|exact trivial|rfl|refine And.intro ?_ ?_|fail))
def c59:Con:=aJ 72 true fun args K=>match args with | [.agg [.val (.int .i64 a),.val (.int .i64 b)],.agg [.val (.int .i64 c),.val (.int .i64 d)]]=>Need (n8 a b c d) (K (.agg [I (a*d-c*b),I (b*d)])) | _=>False
theorem k59:aF Tryz.prog c59:=by
 refine aC rfl (enters_of Tryz.func72 (by kernel_rfl) rfl) ?_
 intro args K h
 simp only[c59] at h
 split at h
 ·rename_i a b c d;exact ⟨_,h.go,aA (Γ:=[]) (by simp) Tryz.func72 (by simp[Tryz.ntmps72]) rfl (b59 a b c d h.ok)⟩
 ·exact h.elim
theorem b56 (a b c d:Int) (h:n8 a b c d):body Tryz.prog [] {} true Tryz.f157 [.agg [I a,I b],.agg [I c,I d]] (.agg [I (a*c),I (b*d)]):=by
 obtain ⟨h1,h2,h3,h4⟩:=h
 have m1:=mul8 h1 h4
 have m2:=mul8 h3 h2
 have m3:=mul8 h2 h4
 have m4:=mul8 h1 h3
 have m5:=mul8 h2 h3
 (repeat'((conv=>whnf);first|refine Zn ?_|fail))
 (conv=>whnf)
 (repeat'(first|exact trivial|rfl|refine And.intro ?_ ?_|fail))
def c56:Con:=aJ 157 true fun args K=>match args with | [.agg [.val (.int .i64 a),.val (.int .i64 b)],.agg [.val (.int .i64 c),.val (.int .i64 d)]]=>Need (n8 a b c d) (K (.agg [I (a*c),I (b*d)])) | _=>False
theorem k56:aF Tryz.prog c56:=by
 refine aC rfl (enters_of Tryz.func157 (by kernel_rfl) rfl) ?_
 intro args K h
 simp only[c56] at h
 split at h
 ·rename_i a b c d;exact ⟨_,h.go,aA (Γ:=[]) (by simp) Tryz.func157 (by simp[Tryz.ntmps157]) rfl (b56 a b c d h.ok)⟩
 ·exact h.elim
theorem b48 (a b c d:Int) (h:n8 a b c d):body Tryz.prog [] {} true Tryz.f77 [.agg [I a,I b],.agg [I c,I d]] (.agg [I (a*d),I (b*c)]):=by
 obtain ⟨h1,h2,h3,h4⟩:=h
 have m1:=mul8 h1 h4
 have m2:=mul8 h3 h2
 have m3:=mul8 h2 h4
 have m4:=mul8 h1 h3
 have m5:=mul8 h2 h3
 (repeat'((conv=>whnf);first|refine Zn ?_|fail))
 (conv=>whnf)
 (repeat'(first|exact trivial|rfl|refine And.intro ?_ ?_|fail))
def c48:Con:=aJ 77 true fun args K=>match args with | [.agg [.val (.int .i64 a),.val (.int .i64 b)],.agg [.val (.int .i64 c),.val (.int .i64 d)]]=>Need (n8 a b c d) (K (.agg [I (a*d),I (b*c)])) | _=>False
theorem k48:aF Tryz.prog c48:=by
 refine aC rfl (enters_of Tryz.func77 (by kernel_rfl) rfl) ?_
 intro args K h
 simp only[c48] at h
 split at h
 ·rename_i a b c d;exact ⟨_,h.go,aA (Γ:=[]) (by simp) Tryz.func77 (by simp[Tryz.ntmps77]) rfl (b48 a b c d h.ok)⟩
 ·exact h.elim
theorem bM {s:List UInt8} (h:bU s):(valQ s).num.natAbs<100000000∧((valQ s).den:Int).natAbs<100000000∧0<((valQ s).den:Int):=by
 have:=(valQ s).den_pos
 exact ⟨h.2.1,by rw[Int.natAbs_natCast];exact h.2.2,by omega⟩
theorem aAo (p q:Rat):Rat.divInt (p.num*q.den+q.num*p.den) (p.den*q.den)=p+q:=by
 rw[sK,dX _ _ (Int.mul_pos (by have:=p.den_pos;omega) (by have:=q.den_pos;omega))];rfl
theorem aAp (p q:Rat):Rat.divInt (p.num*q.den-q.num*p.den) (p.den*q.den)=p-q:=by
 rw[oO,dX _ _ (Int.mul_pos (by have:=p.den_pos;omega) (by have:=q.den_pos;omega))];rfl
theorem aAq (p q:Rat):Rat.divInt (p.num*q.num) (p.den*q.den)=p*q:=by
 rw[oP,dX _ _ (Int.mul_pos (by have:=p.den_pos;omega) (by have:=q.den_pos;omega))];rfl
theorem aAr (p q:Rat) (hq:q≠0):Rat.divInt (p.num*q.den) (p.den*q.num)=p/q:=(aAi p q hq).symm
def nv2 (a b:List UInt8):Prop:=nvOK a∧nvOK b
theorem aPf (a b:List UInt8) (h:nv2 a b) (ha:bU a) (hb:bU b):body Tryz.prog [c68,c53,c90] {} true Tryz.f71 [S a,S b,.clo 155 [] []] (.tup [S (numS (valQ a+valQ b)),.val (.bool true)]):=by
 obtain ⟨na,nb⟩:=h
 obtain ⟨p1,p2,p3⟩:=bM ha
 obtain ⟨q1,q2,q3⟩:=bM hb
 have m1:=mul8 p1 q2
 have m2:=mul8 q1 p2
 have m4:=mul8 p1 q1
 have m3:=mul8 p2 q2
 rw[← aAo (valQ a) (valQ b)]
 (repeat'((conv=>whnf);first|refine Zg fun _=>?_|refine Zn ?_|refine Zy ?_|fail))
 (conv=>whnf)
 (repeat'(first|exact trivial|rfl|refine And.intro ?_ ?_|fail))
theorem aPg (a b:List UInt8) (h:¬nv2 a b):body Tryz.prog [c68,c53,c90] {} true Tryz.f71 [S a,S b,.clo 155 [] []] (.tup [S [],.val (.bool false)]):=by
 by_cases na:nvOK a
 ·have nb:¬nvOK b:=fun e=>h ⟨na,e⟩
  (repeat'((conv=>whnf);first|refine Zg fun _=>?_|refine Zy ?_|refine Zm ?_|fail))
  (conv=>whnf)
  (repeat'(first|exact trivial|rfl|refine And.intro ?_ ?_|fail))
 ·(repeat'((conv=>whnf);first|refine Zm ?_|fail))
  (conv=>whnf)
  (repeat'(first|exact trivial|rfl|refine And.intro ?_ ?_|fail))
def q53:Con:=aJ 71 true fun args K=>match args with
 | [.str a,.str b,.clo 155 [] []]=>Br (nv2 a b) (Giv (bU a∧bU b) (K (.tup [S (numS (valQ a+valQ b)),.val (.bool true)]))) (K (.tup [S [],.val (.bool false)]))
 | _=>False
theorem kq53:aF Tryz.prog q53:=by
 refine aC rfl (enters_of Tryz.func71 (by kernel_rfl) rfl) ?_
 intro args K h
 simp only[q53] at h
 split at h
 ·rename_i a b
  skip
  by_cases hf:nv2 a b
  ·obtain ⟨v1,_,_,v2,v3⟩:=cT hf.1
   obtain ⟨w1,_,_,w2,w3⟩:=cT hf.2
   exact ⟨_,(h.yes hf).go ⟨⟨v1,v2,v3⟩,w1,w2,w3⟩,aA (Γ:=[c68,c53,c90]) (by simp[k68,k53,k90]) Tryz.func71 (by simp[Tryz.ntmps71]) rfl (aPf a b hf ⟨v1,v2,v3⟩ ⟨w1,w2,w3⟩)⟩
  ·exact ⟨_,h.no hf,aA (Γ:=[c68,c53,c90]) (by simp[k68,k53,k90]) Tryz.func71 (by simp[Tryz.ntmps71]) rfl (aPg a b hf)⟩
 ·exact h.elim
theorem aPh (a b:List UInt8) (h:nv2 a b) (ha:bU a) (hb:bU b):body Tryz.prog [c68,c59,c90] {} true Tryz.f71 [S a,S b,.clo 72 [] []] (.tup [S (numS (valQ a-valQ b)),.val (.bool true)]):=by
 obtain ⟨na,nb⟩:=h
 obtain ⟨p1,p2,p3⟩:=bM ha
 obtain ⟨q1,q2,q3⟩:=bM hb
 have m1:=mul8 p1 q2
 have m2:=mul8 q1 p2
 have m4:=mul8 p1 q1
 have m3:=mul8 p2 q2
 rw[← aAp (valQ a) (valQ b)]
 (repeat'((conv=>whnf);first|refine Zg fun _=>?_|refine Zn ?_|refine Zy ?_|fail))
 (conv=>whnf)
 (repeat'(first|exact trivial|rfl|refine And.intro ?_ ?_|fail))
theorem aPi (a b:List UInt8) (h:¬nv2 a b):body Tryz.prog [c68,c59,c90] {} true Tryz.f71 [S a,S b,.clo 72 [] []] (.tup [S [],.val (.bool false)]):=by
 by_cases na:nvOK a
 ·have nb:¬nvOK b:=fun e=>h ⟨na,e⟩
  (repeat'((conv=>whnf);first|refine Zg fun _=>?_|refine Zy ?_|refine Zm ?_|fail))
  (conv=>whnf)
  (repeat'(first|exact trivial|rfl|refine And.intro ?_ ?_|fail))
 ·(repeat'((conv=>whnf);first|refine Zm ?_|fail))
  (conv=>whnf)
  (repeat'(first|exact trivial|rfl|refine And.intro ?_ ?_|fail))
def q59:Con:=aJ 71 true fun args K=>match args with
 | [.str a,.str b,.clo 72 [] []]=>Br (nv2 a b) (Giv (bU a∧bU b) (K (.tup [S (numS (valQ a-valQ b)),.val (.bool true)]))) (K (.tup [S [],.val (.bool false)]))
 | _=>False
theorem kq59:aF Tryz.prog q59:=by
 refine aC rfl (enters_of Tryz.func71 (by kernel_rfl) rfl) ?_
 intro args K h
 simp only[q59] at h
 split at h
 ·rename_i a b
  skip
  by_cases hf:nv2 a b
  ·obtain ⟨v1,_,_,v2,v3⟩:=cT hf.1
   obtain ⟨w1,_,_,w2,w3⟩:=cT hf.2
   exact ⟨_,(h.yes hf).go ⟨⟨v1,v2,v3⟩,w1,w2,w3⟩,aA (Γ:=[c68,c59,c90]) (by simp[k68,k59,k90]) Tryz.func71 (by simp[Tryz.ntmps71]) rfl (aPh a b hf ⟨v1,v2,v3⟩ ⟨w1,w2,w3⟩)⟩
  ·exact ⟨_,h.no hf,aA (Γ:=[c68,c59,c90]) (by simp[k68,k59,k90]) Tryz.func71 (by simp[Tryz.ntmps71]) rfl (aPi a b hf)⟩
 ·exact h.elim
theorem aPj (a b:List UInt8) (h:nv2 a b) (ha:bU a) (hb:bU b):body Tryz.prog [c68,c56,c90] {} true Tryz.f71 [S a,S b,.clo 157 [] []] (.tup [S (numS (valQ a*valQ b)),.val (.bool true)]):=by
 obtain ⟨na,nb⟩:=h
 obtain ⟨p1,p2,p3⟩:=bM ha
 obtain ⟨q1,q2,q3⟩:=bM hb
 have m1:=mul8 p1 q2
 have m2:=mul8 q1 p2
 have m4:=mul8 p1 q1
 have m3:=mul8 p2 q2
 rw[← aAq (valQ a) (valQ b)]
 (repeat'((conv=>whnf);first|refine Zg fun _=>?_|refine Zn ?_|refine Zy ?_|fail))
 (conv=>whnf)
 (repeat'(first|exact trivial|rfl|refine And.intro ?_ ?_|fail))
theorem aPk (a b:List UInt8) (h:¬nv2 a b):body Tryz.prog [c68,c56,c90] {} true Tryz.f71 [S a,S b,.clo 157 [] []] (.tup [S [],.val (.bool false)]):=by
 by_cases na:nvOK a
 ·have nb:¬nvOK b:=fun e=>h ⟨na,e⟩
  (repeat'((conv=>whnf);first|refine Zg fun _=>?_|refine Zy ?_|refine Zm ?_|fail))
  (conv=>whnf)
  (repeat'(first|exact trivial|rfl|refine And.intro ?_ ?_|fail))
 ·(repeat'((conv=>whnf);first|refine Zm ?_|fail))
  (conv=>whnf)
  (repeat'(first|exact trivial|rfl|refine And.intro ?_ ?_|fail))
def q56:Con:=aJ 71 true fun args K=>match args with
 | [.str a,.str b,.clo 157 [] []]=>Br (nv2 a b) (Giv (bU a∧bU b) (K (.tup [S (numS (valQ a*valQ b)),.val (.bool true)]))) (K (.tup [S [],.val (.bool false)]))
 | _=>False
theorem kq56:aF Tryz.prog q56:=by
 refine aC rfl (enters_of Tryz.func71 (by kernel_rfl) rfl) ?_
 intro args K h
 simp only[q56] at h
 split at h
 ·rename_i a b
  skip
  by_cases hf:nv2 a b
  ·obtain ⟨v1,_,_,v2,v3⟩:=cT hf.1
   obtain ⟨w1,_,_,w2,w3⟩:=cT hf.2
   exact ⟨_,(h.yes hf).go ⟨⟨v1,v2,v3⟩,w1,w2,w3⟩,aA (Γ:=[c68,c56,c90]) (by simp[k68,k56,k90]) Tryz.func71 (by simp[Tryz.ntmps71]) rfl (aPj a b hf ⟨v1,v2,v3⟩ ⟨w1,w2,w3⟩)⟩
  ·exact ⟨_,h.no hf,aA (Γ:=[c68,c56,c90]) (by simp[k68,k56,k90]) Tryz.func71 (by simp[Tryz.ntmps71]) rfl (aPk a b hf)⟩
 ·exact h.elim
theorem aPl (a b:List UInt8) (hq:valQ b≠0) (h:nv2 a b) (ha:bU a) (hb:bU b):body Tryz.prog [c68,c48,c90] {} true Tryz.f71 [S a,S b,.clo 77 [] []] (.tup [S (numS (valQ a/valQ b)),.val (.bool true)]):=by
 obtain ⟨na,nb⟩:=h
 obtain ⟨p1,p2,p3⟩:=bM ha
 obtain ⟨q1,q2,q3⟩:=bM hb
 have m1:=mul8 p1 q2
 have m2:=mul8 q1 p2
 have m4:=mul8 p1 q1
 have hq0:(valQ b).num≠0:=fun e=>hq (Rat.num_eq_zero.1 e)
 have m3:=mul8 p2 q1
 rw[← aAr (valQ a) (valQ b) hq]
 (repeat'((conv=>whnf);first|refine Zg fun _=>?_|refine Zn ?_|refine Zy ?_|fail))
 refine Need.mk ⟨by omega,by omega,Int.mul_ne_zero (by omega) hq0⟩ ?_
 skip
 (conv=>whnf)
 (repeat'(first|exact trivial|rfl|refine And.intro ?_ ?_|fail))
theorem aPm (a b:List UInt8) (h:¬nv2 a b):body Tryz.prog [c68,c48,c90] {} true Tryz.f71 [S a,S b,.clo 77 [] []] (.tup [S [],.val (.bool false)]):=by
 by_cases na:nvOK a
 ·have nb:¬nvOK b:=fun e=>h ⟨na,e⟩
  (repeat'((conv=>whnf);first|refine Zg fun _=>?_|refine Zy ?_|refine Zm ?_|fail))
  (conv=>whnf)
  (repeat'(first|exact trivial|rfl|refine And.intro ?_ ?_|fail))
 ·(repeat'((conv=>whnf);first|refine Zm ?_|fail))
  (conv=>whnf)
  (repeat'(first|exact trivial|rfl|refine And.intro ?_ ?_|fail))
def q48:Con:=aJ 71 true fun args K=>match args with
 | [.str a,.str b,.clo 77 [] []]=>Need (¬b= [48]) (Br (nv2 a b) (Giv (bU a∧bU b) (K (.tup [S (numS (valQ a/valQ b)),.val (.bool true)]))) (K (.tup [S [],.val (.bool false)])))
 | _=>False
theorem aAs:numS 0= [48]:=by
 unfold numS
 rw[if_pos (show Rat.den 0=1 from rfl)]
 exact itoa_zero
theorem kq48:aF Tryz.prog q48:=by
 refine aC rfl (enters_of Tryz.func71 (by kernel_rfl) rfl) ?_
 intro args K h
 simp only[q48] at h
 split at h
 ·rename_i a b
  obtain ⟨hb0,h⟩:=h
  by_cases hf:nv2 a b
  ·obtain ⟨v1,_,_,v2,v3⟩:=cT hf.1
   obtain ⟨w1,_,_,w2,w3⟩:=cT hf.2
   have hq:valQ b≠0:=fun e=>hb0 (by rw[w1,e];exact aAs)
   exact ⟨_,(h.yes hf).go ⟨⟨v1,v2,v3⟩,w1,w2,w3⟩,aA (Γ:=[c68,c48,c90]) (by simp[k68,k48,k90]) Tryz.func71 (by simp[Tryz.ntmps71]) rfl (aPl a b hq hf ⟨v1,v2,v3⟩ ⟨w1,w2,w3⟩)⟩
  ·exact ⟨_,h.no hf,aA (Γ:=[c68,c48,c90]) (by simp[k68,k48,k90]) Tryz.func71 (by simp[Tryz.ntmps71]) rfl (aPm a b hf)⟩
 ·exact h.elim
theorem mM {a b:List UInt8} (ha:chkI a=0) (hb:chkI b=0) (r:List UInt8 × Int):bB a b r=r:=by
 unfold bB chk2
 rw[ha,hb,if_neg (by simp)]
def c58r:Con:=aJ 136 true fun args K=>match args with
 | [.str a,.str b]=>Need (chkI a=0∧chkI b=0) (Br (lim (valI a*valI b)=false) (K (.tup [S (itoa (valI a*valI b)),I 0])) (K (.tup [S [],I 4])))
 | _=>False
theorem k58r:aF Tryz.prog c58r:=by
 refine aC rfl (enters_of Tryz.func136 (by kernel_rfl) rfl) ?_
 intro args K h
 simp only[c58r] at h
 split at h
 ·rename_i a b
  obtain ⟨⟨ha,hb⟩,h⟩:=h
  have ht:=aA (Γ:=[c94,c95,c61,c98,c99f,c96]) (by simp[k94,k95,k61,k98,k99f,k96]) Tryz.func136 (by simp[Tryz.ntmps136]) rfl (b58 a b)
  rw[mM ha hb] at ht
  by_cases hl:lim (valI a*valI b)=false
  ·refine ⟨_,h.yes hl,?_⟩
   unfold resI at ht
   rw[hl] at ht
   exact ht
  ·refine ⟨_,h.no hl,?_⟩
   unfold resI at ht
   rw[show lim _=true from by simpa using hl] at ht
   exact ht
 ·exact h.elim
def c55r:Con:=aJ 156 true fun args K=>match args with
 | [.str a,.str b]=>Need (chkI a=0∧chkI b=0) (Br (lim (valI a+valI b)=false) (K (.tup [S (itoa (valI a+valI b)),I 0])) (K (.tup [S [],I 4])))
 | _=>False
theorem k55r:aF Tryz.prog c55r:=by
 refine aC rfl (enters_of Tryz.func156 (by kernel_rfl) rfl) ?_
 intro args K h
 simp only[c55r] at h
 split at h
 ·rename_i a b
  obtain ⟨⟨ha,hb⟩,h⟩:=h
  have ht:=aA (Γ:=[c94,c95,c61,c98,c97,c96]) (by simp[k94,k95,k61,k98,k97,k96]) Tryz.func156 (by simp[Tryz.ntmps156]) rfl (b55 a b)
  rw[mM ha hb] at ht
  by_cases hl:lim (valI a+valI b)=false
  ·refine ⟨_,h.yes hl,?_⟩
   unfold resI at ht
   rw[hl] at ht
   exact ht
  ·refine ⟨_,h.no hl,?_⟩
   unfold resI at ht
   rw[show lim _=true from by simpa using hl] at ht
   exact ht
 ·exact h.elim
def c60r:Con:=aJ 75 true fun args K=>match args with
 | [.str a,.str b]=>Need (chkI a=0∧chkI b=0) (Br (lim (valI a-valI b)=false) (K (.tup [S (itoa (valI a-valI b)),I 0])) (K (.tup [S [],I 4])))
 | _=>False
theorem k60r:aF Tryz.prog c60r:=by
 refine aC rfl (enters_of Tryz.func75 (by kernel_rfl) rfl) ?_
 intro args K h
 simp only[c60r] at h
 split at h
 ·rename_i a b
  obtain ⟨⟨ha,hb⟩,h⟩:=h
  have ht:=aA (Γ:=[c94,c95,c61,c98,c97,c96]) (by simp[k94,k95,k61,k98,k97,k96]) Tryz.func75 (by simp[Tryz.ntmps75]) rfl (b60 a b)
  rw[mM ha hb] at ht
  by_cases hl:lim (valI a-valI b)=false
  ·refine ⟨_,h.yes hl,?_⟩
   unfold resI at ht
   rw[hl] at ht
   exact ht
  ·refine ⟨_,h.no hl,?_⟩
   unfold resI at ht
   rw[show lim _=true from by simpa using hl] at ht
   exact ht
 ·exact h.elim
abbrev ck4 (a b c d:List UInt8):Prop:=(chkI a=0∧chkI b=0)∧(chkI c=0∧chkI d=0)
def fN (a b c d:List UInt8):Prop:=lim (valI a*valI d)=false∧lim (valI c*valI b)=false
instance (a b c d:List UInt8):Decidable (fN a b c d):=by unfold fN;infer_instance
theorem b51y (a b c d:List UInt8) (h:ck4 a b c d) (hl:fN a b c d):body Tryz.prog [c58r] {} true Tryz.f79 [.agg [S a,S b],.agg [S c,S d]] (.tup [S (itoa (valI a*valI d)),S (itoa (valI c*valI b)),I 0]):=by
 obtain ⟨⟨h1,h2⟩,h3,h4⟩:=h
 obtain ⟨l1,l2⟩:=hl
 (repeat'((conv=>whnf);first|refine Zn ?_|refine Zy ?_|refine Zm ?_|fail))
 (conv=>whnf)
 (repeat'(first|exact trivial|rfl|refine And.intro ?_ ?_|fail))
theorem b51n (a b c d:List UInt8) (h:ck4 a b c d) (hl:¬fN a b c d):body Tryz.prog [c58r] {} true Tryz.f79 [.agg [S a,S b],.agg [S c,S d]] (.tup [.any,.any,I 4]):=by
 obtain ⟨⟨h1,h2⟩,h3,h4⟩:=h
 by_cases l1:lim (valI a*valI d)=false
 ·have l2:¬lim (valI c*valI b)=false:=fun e=>hl ⟨l1,e⟩
  (repeat'((conv=>whnf);first|refine Zn ?_|refine Zy ?_|refine Zm ?_|fail))
  (conv=>whnf)
  (repeat'(first|exact trivial|rfl|refine And.intro ?_ ?_|fail))
 ·(repeat'((conv=>whnf);first|refine Zn ?_|refine Zy ?_|refine Zm ?_|fail))
  (conv=>whnf)
  (repeat'(first|exact trivial|rfl|refine And.intro ?_ ?_|fail))
def c51:Con:=aJ 79 true fun args K=>match args with
 | [.agg [.str a,.str b],.agg [.str c,.str d]]=>Need (ck4 a b c d) (Br (fN a b c d) (K (.tup [S (itoa (valI a*valI d)),S (itoa (valI c*valI b)),I 0])) (K (.tup [.any,.any,I 4])))
 | _=>False
theorem k51:aF Tryz.prog c51:=by
 refine aC rfl (enters_of Tryz.func79 (by kernel_rfl) rfl) ?_
 intro args K h
 simp only[c51] at h
 split at h
 ·rename_i a b c d
  obtain ⟨h0,h⟩:=h
  by_cases hl:fN a b c d
  ·exact ⟨_,h.yes hl,aA (Γ:=[c58r]) (by simp[k58r]) Tryz.func79 (by simp[Tryz.ntmps79]) rfl (b51y a b c d h0 hl)⟩
  ·exact ⟨_,h.no hl,aA (Γ:=[c58r]) (by simp[k58r]) Tryz.func79 (by simp[Tryz.ntmps79]) rfl (b51n a b c d h0 hl)⟩
 ·exact h.elim
abbrev dens (b d:List UInt8):Prop:=0<valI b∧0<valI d
theorem oU (n d:Int):numQ (itoa n) (itoa d)=numS (Rat.divInt n d):=by
 unfold numQ
 rw[aO,aO]
theorem aCv {n:Int} (h:0<n):valI (itoa n)≠0:=by rw[aO];omega
def ok57 (a b c d:List UInt8):Prop:=lim (valI a*valI c)=false∧lim (valI b*valI d)=false
instance (a b c d:List UInt8):Decidable (ok57 a b c d):=by unfold ok57;infer_instance
theorem b57y (a b c d:List UInt8) (h:ck4 a b c d∧dens b d) (hl:ok57 a b c d):body Tryz.prog [c58r,c52] {} true Tryz.f158 [.agg [S a,S b],.agg [S c,S d]] (.tup [S (numQ (itoa (valI a*valI c)) (itoa (valI b*valI d))),I 0]):=by
 obtain ⟨⟨⟨h1,h2⟩,h3,h4⟩,hb,hd⟩:=h
 obtain ⟨l1,l2⟩:=hl
 have k1:=aS l1
 have k2:=aS l2
 have k3:=aCv (Int.mul_pos hb hd)
 (repeat'((conv=>whnf);first|refine Zn ?_|refine Zy ?_|refine Zm ?_|fail))
 (conv=>whnf)
 (repeat'(first|exact trivial|rfl|refine And.intro ?_ ?_|fail))
theorem b57n (a b c d:List UInt8) (h:ck4 a b c d) (hl:¬ok57 a b c d):body Tryz.prog [c58r,c52] {} true Tryz.f158 [.agg [S a,S b],.agg [S c,S d]] (.tup [S [],I 4]):=by
 obtain ⟨⟨h1,h2⟩,h3,h4⟩:=h
 by_cases l1:lim (valI a*valI c)=false
 ·have l2:¬lim (valI b*valI d)=false:=fun e=>hl ⟨l1,e⟩
  (repeat'((conv=>whnf);first|refine Zn ?_|refine Zy ?_|refine Zm ?_|fail))
  (conv=>whnf)
  (repeat'(first|exact trivial|rfl|refine And.intro ?_ ?_|fail))
 ·(repeat'((conv=>whnf);first|refine Zn ?_|refine Zy ?_|refine Zm ?_|fail))
  (conv=>whnf)
  (repeat'(first|exact trivial|rfl|refine And.intro ?_ ?_|fail))
def c57:Con:=aJ 158 true fun args K=>match args with
 | [.agg [.str a,.str b],.agg [.str c,.str d]]=>Need (ck4 a b c d∧dens b d) (Br (ok57 a b c d) (K (.tup [S (numS (Rat.divInt (valI a*valI c) (valI b*valI d))),I 0])) (K (.tup [S [],I 4])))
 | _=>False
theorem k57:aF Tryz.prog c57:=by
 refine aC rfl (enters_of Tryz.func158 (by kernel_rfl) rfl) ?_
 intro args K h
 simp only[c57] at h
 split at h
 ·rename_i a b c d
  obtain ⟨h0,h⟩:=h
  by_cases hl:ok57 a b c d
  ·refine ⟨_,h.yes hl,?_⟩
   rw[← oU]
   exact aA (Γ:=[c58r,c52]) (by simp[k58r,k52]) Tryz.func158 (by simp[Tryz.ntmps158]) rfl (b57y a b c d h0 hl)
  ·exact ⟨_,h.no hl,aA (Γ:=[c58r,c52]) (by simp[k58r,k52]) Tryz.func158 (by simp[Tryz.ntmps158]) rfl (b57n a b c d h0.1 hl)⟩
 ·exact h.elim
def nS (a b c d:List UInt8):Prop:=fN a b c d∧lim (valI a*valI d+valI c*valI b)=false∧lim (valI b*valI d)=false
instance (a b c d:List UInt8):Decidable (nS a b c d):=by unfold nS;infer_instance
theorem b93ay (a b c d:List UInt8) (h:ck4 a b c d∧dens b d) (hl:nS a b c d):body Tryz.prog [c51,c55r,c58r,c52] {} true Tryz.f135 [.agg [S a,S b],.agg [S c,S d],.lelem [.clo 156 [] []] 0] (.tup [S (numQ (itoa (valI a*valI d+valI c*valI b)) (itoa (valI b*valI d))),I 0]):=by
 obtain ⟨⟨⟨h1,h2⟩,h3,h4⟩,hb,hd⟩:=h
 obtain ⟨l1,l2,l3⟩:=hl
 have k1:=aS l2
 have k2:=aS l3
 have k3:=aCv (Int.mul_pos hb hd)
 have j1:=aS l1.1
 have j2:=aS l1.2
 have e1:=aO (valI a*valI d)
 have e2:=aO (valI c*valI b)
 (repeat'((conv=>whnf);first|refine Zn ?_|refine Zy ?_|refine Zm ?_|fail))
 rw[e1,e2]
 (repeat'((conv=>whnf);first|refine Zn ?_|refine Zy ?_|refine Zm ?_|fail))
 (conv=>whnf)
 (repeat'(first|exact trivial|rfl|refine And.intro ?_ ?_|fail))
theorem b93an (a b c d:List UInt8) (h:ck4 a b c d) (hl:¬nS a b c d):body Tryz.prog [c51,c55r,c58r,c52] {} true Tryz.f135 [.agg [S a,S b],.agg [S c,S d],.lelem [.clo 156 [] []] 0] (.tup [S [],I 4]):=by
 obtain ⟨⟨h1,h2⟩,h3,h4⟩:=h
 by_cases l1:fN a b c d
 ·have j1:=aS l1.1
  have j2:=aS l1.2
  have e1:=aO (valI a*valI d)
  have e2:=aO (valI c*valI b)
  by_cases l2:lim (valI a*valI d+valI c*valI b)=false
  ·have l3:¬lim (valI b*valI d)=false:=fun e=>hl ⟨l1,l2,e⟩
   (repeat'((conv=>whnf);first|refine Zn ?_|refine Zy ?_|refine Zm ?_|fail))
   rw[e1,e2]
   (repeat'((conv=>whnf);first|refine Zn ?_|refine Zy ?_|refine Zm ?_|fail))
   (conv=>whnf)
   (repeat'(first|exact trivial|rfl|refine And.intro ?_ ?_|fail))
  ·(repeat'((conv=>whnf);first|refine Zn ?_|refine Zy ?_|refine Zm ?_|fail))
   rw[e1,e2]
   (repeat'((conv=>whnf);first|refine Zy ?_|refine Zm ?_|fail))
   (conv=>whnf)
   (repeat'(first|exact trivial|rfl|refine And.intro ?_ ?_|fail))
 ·(repeat'((conv=>whnf);first|refine Zn ?_|refine Zy ?_|refine Zm ?_|fail))
  (conv=>whnf)
  (repeat'(first|exact trivial|rfl|refine And.intro ?_ ?_|fail))
def c93a:Con:=aJ 135 true fun args K=>match args with
 | [.agg [.str a,.str b],.agg [.str c,.str d],.lelem [.clo 156 [] []] 0]=>Need (ck4 a b c d∧dens b d) (Br (nS a b c d) (K (.tup [S (numS (Rat.divInt (valI a*valI d+valI c*valI b) (valI b*valI d))),I 0])) (K (.tup [S [],I 4])))
 | _=>False
theorem k93a:aF Tryz.prog c93a:=by
 refine aC rfl (enters_of Tryz.func135 (by kernel_rfl) rfl) ?_
 intro args K h
 simp only[c93a] at h
 split at h
 ·rename_i a b c d
  obtain ⟨h0,h⟩:=h
  by_cases hl:nS a b c d
  ·refine ⟨_,h.yes hl,?_⟩
   rw[← oU]
   exact aA (Γ:=[c51,c55r,c58r,c52]) (by simp[k51,k55r,k58r,k52]) Tryz.func135 (by simp[Tryz.ntmps135]) rfl (b93ay a b c d h0 hl)
  ·exact ⟨_,h.no hl,aA (Γ:=[c51,c55r,c58r,c52]) (by simp[k51,k55r,k58r,k52]) Tryz.func135 (by simp[Tryz.ntmps135]) rfl (b93an a b c d h0.1 hl)⟩
 ·exact h.elim
def nT (a b c d:List UInt8):Prop:=fN a b c d∧lim (valI a*valI d-valI c*valI b)=false∧lim (valI b*valI d)=false
instance (a b c d:List UInt8):Decidable (nT a b c d):=by unfold nT;infer_instance
theorem b93sy (a b c d:List UInt8) (h:ck4 a b c d∧dens b d) (hl:nT a b c d):body Tryz.prog [c51,c60r,c58r,c52] {} true Tryz.f135 [.agg [S a,S b],.agg [S c,S d],.lelem [.clo 75 [] []] 0] (.tup [S (numQ (itoa (valI a*valI d-valI c*valI b)) (itoa (valI b*valI d))),I 0]):=by
 obtain ⟨⟨⟨h1,h2⟩,h3,h4⟩,hb,hd⟩:=h
 obtain ⟨l1,l2,l3⟩:=hl
 have k1:=aS l2
 have k2:=aS l3
 have k3:=aCv (Int.mul_pos hb hd)
 have j1:=aS l1.1
 have j2:=aS l1.2
 have e1:=aO (valI a*valI d)
 have e2:=aO (valI c*valI b)
 (repeat'((conv=>whnf);first|refine Zn ?_|refine Zy ?_|refine Zm ?_|fail))
 rw[e1,e2]
 (repeat'((conv=>whnf);first|refine Zn ?_|refine Zy ?_|refine Zm ?_|fail))
 (conv=>whnf)
 (repeat'(first|exact trivial|rfl|refine And.intro ?_ ?_|fail))
theorem b93sn (a b c d:List UInt8) (h:ck4 a b c d) (hl:¬nT a b c d):body Tryz.prog [c51,c60r,c58r,c52] {} true Tryz.f135 [.agg [S a,S b],.agg [S c,S d],.lelem [.clo 75 [] []] 0] (.tup [S [],I 4]):=by
 obtain ⟨⟨h1,h2⟩,h3,h4⟩:=h
 by_cases l1:fN a b c d
 ·have j1:=aS l1.1
  have j2:=aS l1.2
  have e1:=aO (valI a*valI d)
  have e2:=aO (valI c*valI b)
  by_cases l2:lim (valI a*valI d-valI c*valI b)=false
  ·have l3:¬lim (valI b*valI d)=false:=fun e=>hl ⟨l1,l2,e⟩
   (repeat'((conv=>whnf);first|refine Zn ?_|refine Zy ?_|refine Zm ?_|fail))
   rw[e1,e2]
   (repeat'((conv=>whnf);first|refine Zn ?_|refine Zy ?_|refine Zm ?_|fail))
   (conv=>whnf)
   (repeat'(first|exact trivial|rfl|refine And.intro ?_ ?_|fail))
  ·(repeat'((conv=>whnf);first|refine Zn ?_|refine Zy ?_|refine Zm ?_|fail))
   rw[e1,e2]
   (repeat'((conv=>whnf);first|refine Zy ?_|refine Zm ?_|fail))
   (conv=>whnf)
   (repeat'(first|exact trivial|rfl|refine And.intro ?_ ?_|fail))
 ·(repeat'((conv=>whnf);first|refine Zn ?_|refine Zy ?_|refine Zm ?_|fail))
  (conv=>whnf)
  (repeat'(first|exact trivial|rfl|refine And.intro ?_ ?_|fail))
def c93s:Con:=aJ 135 true fun args K=>match args with
 | [.agg [.str a,.str b],.agg [.str c,.str d],.lelem [.clo 75 [] []] 0]=>Need (ck4 a b c d∧dens b d) (Br (nT a b c d) (K (.tup [S (numS (Rat.divInt (valI a*valI d-valI c*valI b) (valI b*valI d))),I 0])) (K (.tup [S [],I 4])))
 | _=>False
theorem k93s:aF Tryz.prog c93s:=by
 refine aC rfl (enters_of Tryz.func135 (by kernel_rfl) rfl) ?_
 intro args K h
 simp only[c93s] at h
 split at h
 ·rename_i a b c d
  obtain ⟨h0,h⟩:=h
  by_cases hl:nT a b c d
  ·refine ⟨_,h.yes hl,?_⟩
   rw[← oU]
   exact aA (Γ:=[c51,c60r,c58r,c52]) (by simp[k51,k60r,k58r,k52]) Tryz.func135 (by simp[Tryz.ntmps135]) rfl (b93sy a b c d h0 hl)
  ·exact ⟨_,h.no hl,aA (Γ:=[c51,c60r,c58r,c52]) (by simp[k51,k60r,k58r,k52]) Tryz.func135 (by simp[Tryz.ntmps135]) rfl (b93sn a b c d h0.1 hl)⟩
 ·exact h.elim
def ok50 (a b c d:List UInt8):Prop:=fN a b c d
instance (a b c d:List UInt8):Decidable (ok50 a b c d):=by unfold ok50;infer_instance
theorem b50y (a b c d:List UInt8) (h:ck4 a b c d∧dens b d∧¬c= [48]) (hl:ok50 a b c d):body Tryz.prog [c51,c52] {} true Tryz.f78 [.agg [S a,S b],.agg [S c,S d]] (.tup [S (numQ (itoa (valI a*valI d)) (itoa (valI c*valI b))),I 0]):=by
 obtain ⟨⟨⟨h1,h2⟩,h3,h4⟩,⟨hb,hd⟩,hc⟩:=h
 have k1:=aS hl.1
 have k2:=aS hl.2
 have k3:valI (itoa (valI c*valI b))≠0:=by
  rw[aO]
  exact Int.mul_ne_zero (aNf (bE h3).1 hc) (by omega)
 (repeat'((conv=>whnf);first|refine Zn ?_|refine Zy ?_|refine Zm ?_|fail))
 (conv=>whnf)
 (repeat'(first|exact trivial|rfl|refine And.intro ?_ ?_|fail))
theorem b50n (a b c d:List UInt8) (h:ck4 a b c d∧¬c= [48]) (hl:¬ok50 a b c d):body Tryz.prog [c51,c52] {} true Tryz.f78 [.agg [S a,S b],.agg [S c,S d]] (.tup [S [],I 4]):=by
 obtain ⟨⟨⟨h1,h2⟩,h3,h4⟩,hc⟩:=h
 have hl:¬fN a b c d:=hl
 (repeat'((conv=>whnf);first|refine Zn ?_|refine Zy ?_|refine Zm ?_|fail))
 (conv=>whnf)
 (repeat'(first|exact trivial|rfl|refine And.intro ?_ ?_|fail))
def c50:Con:=aJ 78 true fun args K=>match args with
 | [.agg [.str a,.str b],.agg [.str c,.str d]]=>Need (ck4 a b c d∧dens b d) (Br (c= [48]) (K (.tup [S [],I 12])) (Br (ok50 a b c d) (K (.tup [S (numS (Rat.divInt (valI a*valI d) (valI c*valI b))),I 0])) (K (.tup [S [],I 4]))))
 | _=>False
theorem b50z (a b c d:List UInt8) (hc:c= [48]):body Tryz.prog [c51,c52] {} true Tryz.f78 [.agg [S a,S b],.agg [S c,S d]] (.tup [S [],I 12]):=by
 (repeat'((conv=>whnf);first|refine Zy ?_|fail))
 (conv=>whnf)
 (repeat'(first|exact trivial|rfl|refine And.intro ?_ ?_|fail))
theorem k50:aF Tryz.prog c50:=by
 refine aC rfl (enters_of Tryz.func78 (by kernel_rfl) rfl) ?_
 intro args K h
 simp only[c50] at h
 split at h
 ·rename_i a b c d
  obtain ⟨h0,h⟩:=h
  by_cases hc:c= [48]
  ·exact ⟨_,h.yes hc,aA (Γ:=[c51,c52]) (by simp[k51,k52]) Tryz.func78 (by simp[Tryz.ntmps78]) rfl (b50z a b c d hc)⟩
  replace h:=h.no hc
  by_cases hl:ok50 a b c d
  ·refine ⟨_,h.yes hl,?_⟩
   rw[← oU]
   exact aA (Γ:=[c51,c52]) (by simp[k51,k52]) Tryz.func78 (by simp[Tryz.ntmps78]) rfl (b50y a b c d ⟨h0.1,h0.2,hc⟩ hl)
  ·exact ⟨_,h.no hl,aA (Γ:=[c51,c52]) (by simp[k51,k52]) Tryz.func78 (by simp[Tryz.ntmps78]) rfl (b50n a b c d ⟨h0.1,hc⟩ hl)⟩
 ·exact h.elim
theorem b54 (f:FuncId):body Tryz.prog [] {} false Tryz.f74 [.clo f [] []] (.clo 135 [] [.lelem [.clo f [] []] 0]):=by
 skip
 (conv=>whnf)
 (repeat'(first|exact trivial|rfl|refine And.intro ?_ ?_|fail))
def c54:Con:=aJ 74 false fun args K=>match args with | [.clo f [] []]=>K (.clo 135 [] [.lelem [.clo f [] []] 0]) | _=>False
theorem k54:aF Tryz.prog c54:=by
 refine aC rfl (enters_of Tryz.func74 (by kernel_rfl) rfl) ?_
 intro args K h
 simp only[c54] at h
 split at h
 ·rename_i f;exact ⟨_,h,aA (Γ:=[]) (by simp) Tryz.func74 (by simp[Tryz.ntmps74]) rfl (b54 f)⟩
 ·exact h.elim
noncomputable def addf (p q:Rat):List UInt8 × Int:=if lim (p.num*q.den) || lim (q.num*p.den) || lim (p.num*q.den+q.num*p.den) || lim (p.den*q.den) then ([],4) else (numS (p+q),0)
noncomputable def subf (p q:Rat):List UInt8 × Int:=if lim (p.num*q.den) || lim (q.num*p.den) || lim (p.num*q.den-q.num*p.den) || lim (p.den*q.den) then ([],4) else (numS (p-q),0)
noncomputable def mulf (p q:Rat):List UInt8 × Int:=if lim (p.num*q.num) || lim (p.den*q.den) then ([],4) else (numS (p*q),0)
noncomputable def divf (p q:Rat):List UInt8 × Int:=if q=0 then ([],12) else if lim (p.num*q.den) || lim (q.num*p.den) then ([],4) else (numS (p/q),0)
abbrev pn (p:Rat):List UInt8:=itoa p.num
abbrev pd (p:Rat):List UInt8:=decDigits p.den
theorem iK (p:Rat):valI (pn p)=p.num:=aO _
theorem iL (p:Rat):valI (pd p)=p.den:=by unfold pd;rw[← eB,aO]
theorem aJc (q:Rat):pn q= [48]↔q=0:=by
 unfold pn
 rw[← itoa_zero]
 exact ⟨fun h=>Rat.num_eq_zero.1 (gL h),fun h=>by rw[h];rfl⟩
theorem gN {s:List UInt8} (h:aJb s):chkI (pn (valQ s))=0∧chkI (pd (valQ s))=0∧0<valI (pd (valQ s)):=by
 refine ⟨aS (by unfold lim;simpa using h.2.1),(aCt h.2.2).2.1,?_⟩
 rw[iL]
 have:=(valQ s).den_pos
 omega
theorem aRc {p q:Rat} (h:nS (pn p) (pd p) (pn q) (pd q)):addf p q=(numS (Rat.divInt (valI (pn p)*valI (pd q)+valI (pn q)*valI (pd p)) (valI (pd p)*valI (pd q))),0):=by
 unfold nS fN at h
 simp only[iK,iL] at h ⊢
 unfold addf
 rw[aAo p q]
 simp[h]
theorem aRd {p q:Rat} (h:¬nS (pn p) (pd p) (pn q) (pd q)):addf p q=([],4):=by
 unfold nS fN at h
 simp only[iK,iL] at h
 unfold addf
 rw[if_pos]
 apply Classical.byContradiction
 intro hn
 apply h
 simp only[Bool.or_eq_true,not_or,Bool.not_eq_true] at hn
 simp[hn]
theorem aRe {p q:Rat} (h:nT (pn p) (pd p) (pn q) (pd q)):subf p q=(numS (Rat.divInt (valI (pn p)*valI (pd q)-valI (pn q)*valI (pd p)) (valI (pd p)*valI (pd q))),0):=by
 unfold nT fN at h
 simp only[iK,iL] at h ⊢
 unfold subf
 rw[aAp p q]
 simp[h]
theorem aRf {p q:Rat} (h:¬nT (pn p) (pd p) (pn q) (pd q)):subf p q=([],4):=by
 unfold nT fN at h
 simp only[iK,iL] at h
 unfold subf
 rw[if_pos]
 apply Classical.byContradiction
 intro hn
 apply h
 simp only[Bool.or_eq_true,not_or,Bool.not_eq_true] at hn
 simp[hn]
theorem aRg {p q:Rat} (h:ok57 (pn p) (pd p) (pn q) (pd q)):mulf p q=(numS (Rat.divInt (valI (pn p)*valI (pn q)) (valI (pd p)*valI (pd q))),0):=by
 unfold ok57 at h
 simp only[iK,iL] at h ⊢
 unfold mulf
 rw[aAq p q]
 simp[h]
theorem aRh {p q:Rat} (h:¬ok57 (pn p) (pd p) (pn q) (pd q)):mulf p q=([],4):=by
 unfold ok57 at h
 simp only[iK,iL] at h
 unfold mulf
 rw[if_pos]
 apply Classical.byContradiction
 intro hn
 apply h
 simp only[Bool.or_eq_true,not_or,Bool.not_eq_true] at hn
 simp[hn]
theorem aRi {p q:Rat} (hq:q≠0) (h:ok50 (pn p) (pd p) (pn q) (pd q)):divf p q=(numS (Rat.divInt (valI (pn p)*valI (pd q)) (valI (pn q)*valI (pd p))),0):=by
 unfold ok50 fN at h
 simp only[iK,iL] at h ⊢
 unfold divf
 rw[if_neg hq,Int.mul_comm q.num,aAr p q hq]
 rw[Int.mul_comm q.num] at h
 simp[h]
theorem aRj {p q:Rat} (hq:q≠0) (h:¬ok50 (pn p) (pd p) (pn q) (pd q)):divf p q=([],4):=by
 unfold ok50 fN at h
 simp only[iK,iL] at h
 unfold divf
 rw[if_neg hq,if_pos]
 apply Classical.byContradiction
 intro hn
 apply h
 simp only[Bool.or_eq_true,not_or,Bool.not_eq_true] at hn
 simp[hn]
theorem aPn (a b:List UInt8):body Tryz.prog [c46,c93a] {} true Tryz.f73 [S a,S b,.clo 135 [] [.lelem [.clo 156 [] []] 0]] (.tup [S (addQ a b).1,I (addQ a b).2]):=by
 by_cases ha:chkQ a=0
 ·by_cases hb:chkQ b=0
  ·have e:addQ a b=addf (valQ a) (valQ b):=by
    show cE a b addf= _
    unfold cE
    rw[if_neg (by simpa using ha),if_neg (by simpa using hb)]
   rw[e]
   obtain ⟨r1,r2,r3⟩:=gN (cQ ha)
   obtain ⟨s1,s2,s3⟩:=gN (cQ hb)
   by_cases hk:nS (pn (valQ a)) (pd (valQ a)) (pn (valQ b)) (pd (valQ b))
   ·rw[aRc hk]
    (repeat'((conv=>whnf);first|refine Zg fun _=>?_|refine Zy ?_|refine Zm ?_|fail))
    refine Need.mk ⟨⟨⟨r1,r2⟩,s1,s2⟩,r3,s3⟩ ?_
    (repeat'((conv=>whnf);first|refine Zy ?_|fail))
    (conv=>whnf)
    (repeat'(first|exact trivial|rfl|refine And.intro ?_ ?_|fail))
   ·rw[aRd hk]
    (repeat'((conv=>whnf);first|refine Zg fun _=>?_|refine Zy ?_|refine Zm ?_|fail))
    refine Need.mk ⟨⟨⟨r1,r2⟩,s1,s2⟩,r3,s3⟩ ?_
    (repeat'((conv=>whnf);first|refine Zm ?_|fail))
    (conv=>whnf)
    (repeat'(first|exact trivial|rfl|refine And.intro ?_ ?_|fail))
  ·have e:addQ a b=([],chkQ b):=by
    show cE a b addf= _
    unfold cE
    rw[if_neg (by simpa using ha),if_pos hb]
   rw[e]
   (repeat'((conv=>whnf);first|refine Zg fun _=>?_|refine Zy ?_|refine Zm ?_|fail))
   (conv=>whnf)
   (repeat'(first|exact trivial|rfl|refine And.intro ?_ ?_|fail))
 ·have e:addQ a b=([],chkQ a):=by
   show cE a b addf= _
   unfold cE
   rw[if_pos ha]
  rw[e]
  (repeat'((conv=>whnf);first|refine Zy ?_|refine Zm ?_|fail))
  (conv=>whnf)
  (repeat'(first|exact trivial|rfl|refine And.intro ?_ ?_|fail))
def w93a:Con:=aJ 73 true fun args K=>match args with
 | [.str a,.str b,.clo 135 [] [.lelem [.clo 156 [] []] 0]]=>K (.tup [S (addQ a b).1,I (addQ a b).2])
 | _=>False
theorem kw93a:aF Tryz.prog w93a:=by
 refine aC rfl (enters_of Tryz.func73 (by kernel_rfl) rfl) ?_
 intro args K h
 simp only[w93a] at h
 split at h
 ·rename_i a b
  exact ⟨_,h,aA (Γ:=[c46,c93a]) (by simp[k46,k93a]) Tryz.func73 (by simp[Tryz.ntmps73]) rfl (aPn a b)⟩
 ·exact h.elim
theorem aPo (a b:List UInt8):body Tryz.prog [c46,c93s] {} true Tryz.f73 [S a,S b,.clo 135 [] [.lelem [.clo 75 [] []] 0]] (.tup [S (subQ a b).1,I (subQ a b).2]):=by
 by_cases ha:chkQ a=0
 ·by_cases hb:chkQ b=0
  ·have e:subQ a b=subf (valQ a) (valQ b):=by
    show cE a b subf= _
    unfold cE
    rw[if_neg (by simpa using ha),if_neg (by simpa using hb)]
   rw[e]
   obtain ⟨r1,r2,r3⟩:=gN (cQ ha)
   obtain ⟨s1,s2,s3⟩:=gN (cQ hb)
   by_cases hk:nT (pn (valQ a)) (pd (valQ a)) (pn (valQ b)) (pd (valQ b))
   ·rw[aRe hk]
    (repeat'((conv=>whnf);first|refine Zg fun _=>?_|refine Zy ?_|refine Zm ?_|fail))
    refine Need.mk ⟨⟨⟨r1,r2⟩,s1,s2⟩,r3,s3⟩ ?_
    (repeat'((conv=>whnf);first|refine Zy ?_|fail))
    (conv=>whnf)
    (repeat'(first|exact trivial|rfl|refine And.intro ?_ ?_|fail))
   ·rw[aRf hk]
    (repeat'((conv=>whnf);first|refine Zg fun _=>?_|refine Zy ?_|refine Zm ?_|fail))
    refine Need.mk ⟨⟨⟨r1,r2⟩,s1,s2⟩,r3,s3⟩ ?_
    (repeat'((conv=>whnf);first|refine Zm ?_|fail))
    (conv=>whnf)
    (repeat'(first|exact trivial|rfl|refine And.intro ?_ ?_|fail))
  ·have e:subQ a b=([],chkQ b):=by
    show cE a b subf= _
    unfold cE
    rw[if_neg (by simpa using ha),if_pos hb]
   rw[e]
   (repeat'((conv=>whnf);first|refine Zg fun _=>?_|refine Zy ?_|refine Zm ?_|fail))
   (conv=>whnf)
   (repeat'(first|exact trivial|rfl|refine And.intro ?_ ?_|fail))
 ·have e:subQ a b=([],chkQ a):=by
   show cE a b subf= _
   unfold cE
   rw[if_pos ha]
  rw[e]
  (repeat'((conv=>whnf);first|refine Zy ?_|refine Zm ?_|fail))
  (conv=>whnf)
  (repeat'(first|exact trivial|rfl|refine And.intro ?_ ?_|fail))
def w93s:Con:=aJ 73 true fun args K=>match args with
 | [.str a,.str b,.clo 135 [] [.lelem [.clo 75 [] []] 0]]=>K (.tup [S (subQ a b).1,I (subQ a b).2])
 | _=>False
theorem kw93s:aF Tryz.prog w93s:=by
 refine aC rfl (enters_of Tryz.func73 (by kernel_rfl) rfl) ?_
 intro args K h
 simp only[w93s] at h
 split at h
 ·rename_i a b
  exact ⟨_,h,aA (Γ:=[c46,c93s]) (by simp[k46,k93s]) Tryz.func73 (by simp[Tryz.ntmps73]) rfl (aPo a b)⟩
 ·exact h.elim
theorem aRk (a b:List UInt8):body Tryz.prog [c46,c57] {} true Tryz.f73 [S a,S b,.clo 158 [] []] (.tup [S (mulQ a b).1,I (mulQ a b).2]):=by
 by_cases ha:chkQ a=0
 ·by_cases hb:chkQ b=0
  ·have e:mulQ a b=mulf (valQ a) (valQ b):=by
    show cE a b mulf= _
    unfold cE
    rw[if_neg (by simpa using ha),if_neg (by simpa using hb)]
   rw[e]
   obtain ⟨r1,r2,r3⟩:=gN (cQ ha)
   obtain ⟨s1,s2,s3⟩:=gN (cQ hb)
   by_cases hk:ok57 (pn (valQ a)) (pd (valQ a)) (pn (valQ b)) (pd (valQ b))
   ·rw[aRg hk]
    (repeat'((conv=>whnf);first|refine Zg fun _=>?_|refine Zy ?_|refine Zm ?_|fail))
    refine Need.mk ⟨⟨⟨r1,r2⟩,s1,s2⟩,r3,s3⟩ ?_
    (repeat'((conv=>whnf);first|refine Zy ?_|fail))
    (conv=>whnf)
    (repeat'(first|exact trivial|rfl|refine And.intro ?_ ?_|fail))
   ·rw[aRh hk]
    (repeat'((conv=>whnf);first|refine Zg fun _=>?_|refine Zy ?_|refine Zm ?_|fail))
    refine Need.mk ⟨⟨⟨r1,r2⟩,s1,s2⟩,r3,s3⟩ ?_
    (repeat'((conv=>whnf);first|refine Zm ?_|fail))
    (conv=>whnf)
    (repeat'(first|exact trivial|rfl|refine And.intro ?_ ?_|fail))
  ·have e:mulQ a b=([],chkQ b):=by
    show cE a b mulf= _
    unfold cE
    rw[if_neg (by simpa using ha),if_pos hb]
   rw[e]
   (repeat'((conv=>whnf);first|refine Zg fun _=>?_|refine Zy ?_|refine Zm ?_|fail))
   (conv=>whnf)
   (repeat'(first|exact trivial|rfl|refine And.intro ?_ ?_|fail))
 ·have e:mulQ a b=([],chkQ a):=by
   show cE a b mulf= _
   unfold cE
   rw[if_pos ha]
  rw[e]
  (repeat'((conv=>whnf);first|refine Zy ?_|refine Zm ?_|fail))
  (conv=>whnf)
  (repeat'(first|exact trivial|rfl|refine And.intro ?_ ?_|fail))
def w57:Con:=aJ 73 true fun args K=>match args with
 | [.str a,.str b,.clo 158 [] []]=>K (.tup [S (mulQ a b).1,I (mulQ a b).2])
 | _=>False
theorem kw57:aF Tryz.prog w57:=by
 refine aC rfl (enters_of Tryz.func73 (by kernel_rfl) rfl) ?_
 intro args K h
 simp only[w57] at h
 split at h
 ·rename_i a b
  exact ⟨_,h,aA (Γ:=[c46,c57]) (by simp[k46,k57]) Tryz.func73 (by simp[Tryz.ntmps73]) rfl (aRk a b)⟩
 ·exact h.elim
theorem aRl (a b:List UInt8):body Tryz.prog [c46,c50] {} true Tryz.f73 [S a,S b,.clo 78 [] []] (.tup [S (divQ a b).1,I (divQ a b).2]):=by
 by_cases ha:chkQ a=0
 ·by_cases hb:chkQ b=0
  ·have e:divQ a b=divf (valQ a) (valQ b):=by
    show cE a b divf= _
    unfold cE
    rw[if_neg (by simpa using ha),if_neg (by simpa using hb)]
   rw[e]
   obtain ⟨r1,r2,r3⟩:=gN (cQ ha)
   obtain ⟨s1,s2,s3⟩:=gN (cQ hb)
   by_cases hz:pn (valQ b)= [48]
   ·have hd:divf (valQ a) (valQ b)=([],12):=by unfold divf;rw[if_pos ((aJc _).1 hz)]
    rw[hd]
    (repeat'((conv=>whnf);first|refine Zg fun _=>?_|refine Zy ?_|refine Zm ?_|fail))
    refine Need.mk ⟨⟨⟨r1,r2⟩,s1,s2⟩,r3,s3⟩ ?_
    (repeat'((conv=>whnf);first|refine Zy ?_|fail))
    (conv=>whnf)
    (repeat'(first|exact trivial|rfl|refine And.intro ?_ ?_|fail))
   ·have hq:valQ b≠0:=fun e=>hz ((aJc _).2 e)
    by_cases hk:ok50 (pn (valQ a)) (pd (valQ a)) (pn (valQ b)) (pd (valQ b))
    ·rw[aRi hq hk]
     (repeat'((conv=>whnf);first|refine Zg fun _=>?_|refine Zy ?_|refine Zm ?_|fail))
     refine Need.mk ⟨⟨⟨r1,r2⟩,s1,s2⟩,r3,s3⟩ ?_
     (repeat'((conv=>whnf);first|refine Zy ?_|refine Zm ?_|fail))
     (conv=>whnf)
     (repeat'(first|exact trivial|rfl|refine And.intro ?_ ?_|fail))
    ·rw[aRj hq hk]
     (repeat'((conv=>whnf);first|refine Zg fun _=>?_|refine Zy ?_|refine Zm ?_|fail))
     refine Need.mk ⟨⟨⟨r1,r2⟩,s1,s2⟩,r3,s3⟩ ?_
     (repeat'((conv=>whnf);first|refine Zm ?_|fail))
     (conv=>whnf)
     (repeat'(first|exact trivial|rfl|refine And.intro ?_ ?_|fail))
  ·have e:divQ a b=([],chkQ b):=by
    show cE a b divf= _
    unfold cE
    rw[if_neg (by simpa using ha),if_pos hb]
   rw[e]
   (repeat'((conv=>whnf);first|refine Zg fun _=>?_|refine Zy ?_|refine Zm ?_|fail))
   (conv=>whnf)
   (repeat'(first|exact trivial|rfl|refine And.intro ?_ ?_|fail))
 ·have e:divQ a b=([],chkQ a):=by
   show cE a b divf= _
   unfold cE
   rw[if_pos ha]
  rw[e]
  (repeat'((conv=>whnf);first|refine Zy ?_|refine Zm ?_|fail))
  (conv=>whnf)
  (repeat'(first|exact trivial|rfl|refine And.intro ?_ ?_|fail))
def w50:Con:=aJ 73 true fun args K=>match args with
 | [.str a,.str b,.clo 78 [] []]=>K (.tup [S (divQ a b).1,I (divQ a b).2])
 | _=>False
theorem kw50:aF Tryz.prog w50:=by
 refine aC rfl (enters_of Tryz.func73 (by kernel_rfl) rfl) ?_
 intro args K h
 simp only[w50] at h
 split at h
 ·rename_i a b
  exact ⟨_,h,aA (Γ:=[c46,c50]) (by simp[k46,k50]) Tryz.func73 (by simp[Tryz.ntmps73]) rfl (aRl a b)⟩
 ·exact h.elim
theorem bG {n:Int} (h:n.natAbs<10^40):lim n=false:=by
 unfold lim
 have:=gK 39 n.natAbs h
 simp;omega
theorem mN {a b:List UInt8} (ha:bU a) (hb:bU b) (f:Rat→Rat→List UInt8 × Int):cE a b f=f (valQ a) (valQ b):=by
 unfold cE
 rw[if_neg (by rw[iI ha];simp),if_neg (by rw[iI hb];simp)]
theorem aHb {a b:List UInt8} (ha:bU a) (hb:bU b):addQ a b=(numS (valQ a+valQ b),0):=by
 rw[show addQ a b=addf (valQ a) (valQ b) from mN ha hb addf]
 obtain ⟨p1,p2,p3⟩:=bM ha
 obtain ⟨q1,q2,q3⟩:=bM hb
 have m1:=mul8 p1 q2
 have m2:=mul8 q1 p2
 have m3:=mul8 p2 q2
 have m4:=mul8 p1 q1
 unfold addf
 rw[bG (n:=(valQ a).num*(valQ b).den) (by omega),bG (n:=(valQ b).num*(valQ a).den) (by omega),bG (n:=(valQ a).num*(valQ b).den+(valQ b).num*(valQ a).den) (by omega),bG (n:=(valQ a).den*(valQ b).den) (by omega)]
 rfl
theorem aHc {a b:List UInt8} (ha:bU a) (hb:bU b):subQ a b=(numS (valQ a-valQ b),0):=by
 rw[show subQ a b=subf (valQ a) (valQ b) from mN ha hb subf]
 obtain ⟨p1,p2,p3⟩:=bM ha
 obtain ⟨q1,q2,q3⟩:=bM hb
 have m1:=mul8 p1 q2
 have m2:=mul8 q1 p2
 have m3:=mul8 p2 q2
 have m4:=mul8 p1 q1
 unfold subf
 rw[bG (n:=(valQ a).num*(valQ b).den) (by omega),bG (n:=(valQ b).num*(valQ a).den) (by omega),bG (n:=(valQ a).num*(valQ b).den-(valQ b).num*(valQ a).den) (by omega),bG (n:=(valQ a).den*(valQ b).den) (by omega)]
 rfl
theorem aHd {a b:List UInt8} (ha:bU a) (hb:bU b):mulQ a b=(numS (valQ a*valQ b),0):=by
 rw[show mulQ a b=mulf (valQ a) (valQ b) from mN ha hb mulf]
 obtain ⟨p1,p2,p3⟩:=bM ha
 obtain ⟨q1,q2,q3⟩:=bM hb
 have m1:=mul8 p1 q2
 have m2:=mul8 q1 p2
 have m3:=mul8 p2 q2
 have m4:=mul8 p1 q1
 unfold mulf
 rw[bG (n:=(valQ a).num*(valQ b).num) (by omega),bG (n:=(valQ a).den*(valQ b).den) (by omega)]
 rfl
theorem aHe {a b:List UInt8} (ha:bU a) (hb:bU b) (h0:¬b= [48]):divQ a b=(numS (valQ a/valQ b),0):=by
 rw[show divQ a b=divf (valQ a) (valQ b) from mN ha hb divf]
 obtain ⟨p1,p2,p3⟩:=bM ha
 obtain ⟨q1,q2,q3⟩:=bM hb
 have m1:=mul8 p1 q2
 have m2:=mul8 q1 p2
 unfold divf
 rw[if_neg (fun e=>h0 (by rw[hb.1,e];exact aAs)),bG (n:=(valQ a).num*(valQ b).den) (by omega),bG (n:=(valQ b).num*(valQ a).den) (by omega)]
 rfl
theorem b17 (a b:List UInt8):body Tryz.prog [q53,w93a,c54] {} true Tryz.f97 [S a,S b] (.tup [S (addQ a b).1,I (addQ a b).2]):=by
 by_cases h:nv2 a b
 ·have ha:=(cT h.1);have hb:=(cT h.2)
  rw[aHb ⟨ha.1,ha.2.2.2⟩ ⟨hb.1,hb.2.2.2⟩]
  (repeat'((conv=>whnf);first|refine Zg fun _=>?_|refine Zy ?_|fail))
  (conv=>whnf)
  (repeat'(first|exact trivial|rfl|refine And.intro ?_ ?_|fail))
 ·(repeat'((conv=>whnf);first|refine Zm ?_|fail))
  (conv=>whnf)
  (repeat'(first|exact trivial|rfl|refine And.intro ?_ ?_|fail))
def c17:Con:=aJ 97 true fun args K=>match args with | [.str a,.str b]=>K (.tup [S (addQ a b).1,I (addQ a b).2]) | _=>False
theorem k17:aF Tryz.prog c17:=by
 refine aC rfl (enters_of Tryz.func97 (by kernel_rfl) rfl) ?_
 intro args K h
 simp only[c17] at h
 split at h
 ·rename_i a b
  exact ⟨_,h,aA (Γ:=[q53,w93a,c54]) (by simp[kq53,kw93a,k54]) Tryz.func97 (by simp[Tryz.ntmps97]) rfl (b17 a b)⟩
 ·exact h.elim
theorem b20 (a b:List UInt8):body Tryz.prog [q59,w93s,c54] {} true Tryz.f15 [S a,S b] (.tup [S (subQ a b).1,I (subQ a b).2]):=by
 by_cases h:nv2 a b
 ·have ha:=(cT h.1);have hb:=(cT h.2)
  rw[aHc ⟨ha.1,ha.2.2.2⟩ ⟨hb.1,hb.2.2.2⟩]
  (repeat'((conv=>whnf);first|refine Zg fun _=>?_|refine Zy ?_|fail))
  (conv=>whnf)
  (repeat'(first|exact trivial|rfl|refine And.intro ?_ ?_|fail))
 ·(repeat'((conv=>whnf);first|refine Zm ?_|fail))
  (conv=>whnf)
  (repeat'(first|exact trivial|rfl|refine And.intro ?_ ?_|fail))
def c20:Con:=aJ 15 true fun args K=>match args with | [.str a,.str b]=>K (.tup [S (subQ a b).1,I (subQ a b).2]) | _=>False
theorem k20:aF Tryz.prog c20:=by
 refine aC rfl (enters_of Tryz.func15 (by kernel_rfl) rfl) ?_
 intro args K h
 simp only[c20] at h
 split at h
 ·rename_i a b
  exact ⟨_,h,aA (Γ:=[q59,w93s,c54]) (by simp[kq59,kw93s,k54]) Tryz.func15 (by simp[Tryz.ntmps15]) rfl (b20 a b)⟩
 ·exact h.elim
theorem b19 (a b:List UInt8):body Tryz.prog [q56,w57] {} true Tryz.f98 [S a,S b] (.tup [S (mulQ a b).1,I (mulQ a b).2]):=by
 by_cases h:nv2 a b
 ·have ha:=(cT h.1);have hb:=(cT h.2)
  rw[aHd ⟨ha.1,ha.2.2.2⟩ ⟨hb.1,hb.2.2.2⟩]
  (repeat'((conv=>whnf);first|refine Zg fun _=>?_|refine Zy ?_|fail))
  (conv=>whnf)
  (repeat'(first|exact trivial|rfl|refine And.intro ?_ ?_|fail))
 ·(repeat'((conv=>whnf);first|refine Zm ?_|fail))
  (conv=>whnf)
  (repeat'(first|exact trivial|rfl|refine And.intro ?_ ?_|fail))
def c19:Con:=aJ 98 true fun args K=>match args with | [.str a,.str b]=>K (.tup [S (mulQ a b).1,I (mulQ a b).2]) | _=>False
theorem k19:aF Tryz.prog c19:=by
 refine aC rfl (enters_of Tryz.func98 (by kernel_rfl) rfl) ?_
 intro args K h
 simp only[c19] at h
 split at h
 ·rename_i a b
  exact ⟨_,h,aA (Γ:=[q56,w57]) (by simp[kq56,kw57]) Tryz.func98 (by simp[Tryz.ntmps98]) rfl (b19 a b)⟩
 ·exact h.elim
theorem b14 (a b:List UInt8):body Tryz.prog [q48,w50] {} true Tryz.f18 [S a,S b] (.tup [S (divQ a b).1,I (divQ a b).2]):=by
 by_cases h0:b= [48]
 ·(repeat'((conv=>whnf);first|refine Zm ?_|fail))
  (conv=>whnf)
  (repeat'(first|exact trivial|rfl|refine And.intro ?_ ?_|fail))
 ·by_cases h:nv2 a b
  ·have ha:=(cT h.1);have hb:=(cT h.2)
   rw[aHe ⟨ha.1,ha.2.2.2⟩ ⟨hb.1,hb.2.2.2⟩ h0]
   (repeat'((conv=>whnf);first|refine Zg fun _=>?_|refine Zn ?_|refine Zy ?_|fail))
   (conv=>whnf)
   (repeat'(first|exact trivial|rfl|refine And.intro ?_ ?_|fail))
  ·(repeat'((conv=>whnf);first|refine Zn ?_|refine Zy ?_|refine Zm ?_|fail))
   (conv=>whnf)
   (repeat'(first|exact trivial|rfl|refine And.intro ?_ ?_|fail))
def c14:Con:=aJ 18 true fun args K=>match args with | [.str a,.str b]=>K (.tup [S (divQ a b).1,I (divQ a b).2]) | _=>False
theorem k14:aF Tryz.prog c14:=by
 refine aC rfl (enters_of Tryz.func18 (by kernel_rfl) rfl) ?_
 intro args K h
 simp only[c14] at h
 split at h
 ·rename_i a b
  exact ⟨_,h,aA (Γ:=[q48,w50]) (by simp[kq48,kw50]) Tryz.func18 (by simp[Tryz.ntmps18]) rfl (b14 a b)⟩
 ·exact h.elim
theorem b21 (a:List UInt8):body Tryz.prog [c46] {} true Tryz.f63 [S a] (I (chkQ a)):=by
 by_cases h:chkQ a=0
 ·rw[h]
  (repeat'((conv=>whnf);first|refine Zg fun _=>?_|refine Zy ?_|fail))
  (conv=>whnf)
  (repeat'(first|rfl|refine And.intro ?_ ?_|fail))
 ·(repeat'((conv=>whnf);first|refine Zm ?_|fail))
  (conv=>whnf)
  (repeat'(first|rfl|refine And.intro ?_ ?_|fail))
def c21:Con:=aJ 63 true fun args K=>match args with | [.str a]=>K (I (chkQ a)) | _=>False
theorem k21:aF Tryz.prog c21:=by
 refine aC rfl (enters_of Tryz.func63 (by kernel_rfl) rfl) ?_
 intro args K h
 simp only[c21] at h
 split at h
 ·rename_i a;exact ⟨_,h,aA (Γ:=[c46]) (by simp[k46]) Tryz.func63 (by simp[Tryz.ntmps63]) rfl (b21 a)⟩
 ·exact h.elim
theorem div_one (n:Int):numS (Rat.divInt n 1)=itoa n:=by
 rw[dX _ _ (by omega),show (1:Int).toNat=1 from rfl,uQ _ _ (by omega),Nat.gcd_one_left,if_pos rfl]
 simp
noncomputable def flQ (a:List UInt8):List UInt8 × Int:=if chkQ a=0 then (itoa ((valQ a).num/(valQ a).den),0) else ([],chkQ a)
theorem aFh {x y:Int} (hy:0<y):(if x.tmod y<0 then x.tdiv y-1 else x.tdiv y)=x/y:=by
 have h:=aAj x y (by omega)
 rw[← Int.fdiv_eq_ediv_of_nonneg x (by omega)]
 by_cases hm:x.tmod y<0
 ·rw[if_pos ⟨by omega,by omega⟩,Prod.mk.injEq] at h
  rw[if_pos hm];exact h.1
 ·rw[if_neg (by omega),Prod.mk.injEq] at h
  rw[if_neg hm];exact h.1
theorem aK7 {x y:Int} (hx:lim x=false) (hy:lim y=false) (h0:0<y):divI (itoa x) (itoa y)=(itoa (x/y),itoa (x%y),0):=by
 unfold divI chk2
 rw[aS hx,aS hy,if_neg (by simp),if_neg (fun e=>by
  have:=gL (e.trans itoa_zero.symm);omega),aO,aO]
 have e1:x.fdiv y=x/y:=Int.fdiv_eq_ediv_of_nonneg _ (by omega)
 have e2:x.fmod y=x%y:=Int.fmod_eq_emod_of_nonneg _ (by omega)
 unfold dvI
 rw[e1,e2]
 have l1:lim (x/y)=false:=iJ (y:=x) (Int.natAbs_ediv_le_natAbs _ _) hx
 have l2:lim (x%y)=false:=iJ (y:=y) (by
  have:=Int.emod_nonneg x (show y≠0 by omega)
  have:=Int.emod_lt_of_pos x h0
  omega) hy
 rw[l1,l2];rfl
theorem aFi {s:List UInt8} (h:aJb s):lim (valQ s).num=false∧lim ((valQ s).den:Int)=false:=by
 constructor
 ·unfold lim;simpa using h.2.1
 ·unfold lim;rw[Int.natAbs_natCast];simpa using h.2.2
theorem b29 (a:List UInt8):body Tryz.prog [c68,c46,c61,c69] {} true Tryz.f66 [S a] (.tup [S (flQ a).1,I (flQ a).2]):=by
 unfold flQ
 by_cases hv:nvOK a
 ·have ha:=cT hv
  have hs:bU a:=⟨ha.1,ha.2.2.2⟩
  obtain ⟨p1,p2,p3⟩:=bM hs
  rw[if_pos (iI hs)]
  have hd:((valQ a).num.tdiv (valQ a).den).natAbs≤(valQ a).num.natAbs:=by rw[Int.natAbs_tdiv];exact Nat.div_le_self _ _
  have hm:((valQ a).num.tmod (valQ a).den).natAbs<((valQ a).den:Int).natAbs:=by rw[Int.natAbs_tmod];exact Nat.mod_lt _ (by omega)
  rw[← aFh p3]
  by_cases hneg:(valQ a).num.tmod (valQ a).den<0
  ·rw[if_pos hneg]
   (repeat'((conv=>whnf);first|refine Zg fun _=>?_|refine Zb ?_|refine Zn ?_|refine Zy ?_|fail))
   (conv=>whnf)
   (repeat'(first|exact trivial|rfl|refine And.intro ?_ ?_|fail))
  ·rw[if_neg hneg]
   (repeat'((conv=>whnf);first|refine Zg fun _=>?_|refine Zb ?_|refine Zn ?_|refine Zy ?_|refine Zm ?_|fail))
   (conv=>whnf)
   (repeat'(first|exact trivial|rfl|refine And.intro ?_ ?_|fail))
 ·by_cases h:chkQ a=0
  ·rw[if_pos h]
   obtain ⟨r1,r2,r3⟩:=gN (cQ h)
   obtain ⟨l1,l2⟩:=aFi (cQ h)
   have hpos:=(valQ a).den_pos
   have hd:=aK7 l1 l2 (by omega)
   rw[eB] at hd
   (repeat'((conv=>whnf);first|refine Zg fun _=>?_|refine Zy ?_|refine Zm ?_|fail))
   (conv=>whnf)
   (repeat'(first|exact trivial|rfl|refine And.intro ?_ ?_|fail))
   ·exact congrArg Prod.fst hd
   ·exact congrArg (fun z=>z.2.2) hd
  ·rw[if_neg h]
   (repeat'((conv=>whnf);first|refine Zy ?_|refine Zm ?_|fail))
   (conv=>whnf)
   (repeat'(first|exact trivial|rfl|refine And.intro ?_ ?_|fail))
def c29:Con:=aJ 66 true fun args K=>match args with | [.str a]=>K (.tup [S (flQ a).1,I (flQ a).2]) | _=>False
theorem k29:aF Tryz.prog c29:=by
 refine aC rfl (enters_of Tryz.func66 (by kernel_rfl) rfl) ?_
 intro args K h
 simp only[c29] at h
 split at h
 ·rename_i a;exact ⟨_,h,aA (Γ:=[c68,c46,c61,c69]) (by simp[k68,k46,k61,k69]) Tryz.func66 (by simp[Tryz.ntmps66]) rfl (b29 a)⟩
 ·exact h.elim
noncomputable def inQ (a:List UInt8):Int × Int:=if chkQ a=0 then (if (valQ a).den=1 then (if (valQ a).num < -4611686018427387904∨4611686018427387904<(valQ a).num then (0,2) else ((valQ a).num,0)) else (0,8)) else (0,chkQ a)
theorem b31 (a:List UInt8):body Tryz.prog [c46,c72] {} true Tryz.f130 [S a] (.tup [I (inQ a).1,I (inQ a).2]):=by
 unfold inQ
 by_cases h:chkQ a=0
 ·rw[if_pos h]
  have hr:=cQ h
  obtain ⟨l1,l2⟩:=aFi hr
  have e1:pd (valQ a)= [49]↔(valQ a).den=1:=by
   unfold pd
   constructor
   ·intro e
    have:=congrArg aD e
    rw[bW] at this
    exact this
   ·intro e;rw[e];exact cB (show 1<10 by omega)
  by_cases hd:(valQ a).den=1
  ·rw[if_pos hd]
   have hd:=e1.2 hd
   have hf:=eH (valQ a).num
   have hl:=dY l1
   have hv:=aO (valQ a).num
   by_cases hb:(valQ a).num < -4611686018427387904∨4611686018427387904<(valQ a).num
   ·rw[if_pos hb]
    by_cases hfit:fitI (valI (itoa (valQ a).num))
    ·rcases hb with hb | hb
     ·(repeat'((conv=>whnf);first|refine Zg fun _=>?_|refine Zy ?_|refine Zm ?_|fail))
      refine Need.mk ⟨hf,by omega⟩ ?_
      (repeat'((conv=>whnf);first|refine Zy ?_|fail))
      (conv=>whnf)
      (repeat'(first|exact trivial|rfl|refine And.intro ?_ ?_|fail))
     ·(repeat'((conv=>whnf);first|refine Zg fun _=>?_|refine Zy ?_|refine Zm ?_|fail))
      refine Need.mk ⟨hf,by omega⟩ ?_
      (repeat'((conv=>whnf);first|refine Zy ?_|refine Zm ?_|fail))
      (conv=>whnf)
      (repeat'(first|exact trivial|rfl|refine And.intro ?_ ?_|fail))
    ·(repeat'((conv=>whnf);first|refine Zg fun _=>?_|refine Zy ?_|refine Zm ?_|fail))
     refine Need.mk ⟨hf,by omega⟩ ?_
     (repeat'((conv=>whnf);first|refine Zm ?_|fail))
     (conv=>whnf)
     intro q hq
     skip
     (refine Br.mk (fun _=>?_) (fun _=>?_))
     ·skip
      (conv=>whnf)
      (repeat'(first|exact trivial|rfl|refine And.intro ?_ ?_|fail))
     ·rcases (sQ hf).2 hfit with ⟨_,hs⟩ | ⟨_,hs⟩
      ·(repeat'((conv=>whnf);first|refine Zy ?_|refine Zm ?_|fail))
       (conv=>whnf)
       (repeat'(first|exact trivial|rfl|refine And.intro ?_ ?_|fail))
      ·(repeat'((conv=>whnf);first|refine Zy ?_|fail))
       (conv=>whnf)
       (repeat'(first|exact trivial|rfl|refine And.intro ?_ ?_|fail))
   ·rw[if_neg hb]
    have hfit:fitI (valI (itoa (valQ a).num)):=by unfold fitI;rw[hv];omega
    (repeat'((conv=>whnf);first|refine Zg fun _=>?_|refine Zy ?_|refine Zm ?_|fail))
    refine Need.mk ⟨hf,by omega⟩ ?_
    (repeat'((conv=>whnf);first|refine Zy ?_|refine Zm ?_|fail))
    (conv=>whnf)
    (repeat'(first|exact trivial|rfl|refine And.intro ?_ ?_|fail))
    exact hv
  ·rw[if_neg hd]
   have hd:=fun e=>hd (e1.1 e)
   (repeat'((conv=>whnf);first|refine Zg fun _=>?_|refine Zy ?_|refine Zm ?_|fail))
   (conv=>whnf)
   (repeat'(first|exact trivial|rfl|refine And.intro ?_ ?_|fail))
 ·rw[if_neg h]
  (repeat'((conv=>whnf);first|refine Zy ?_|refine Zm ?_|fail))
  (conv=>whnf)
  (repeat'(first|exact trivial|rfl|refine And.intro ?_ ?_|fail))
def c31:Con:=aJ 130 true fun args K=>match args with | [.str a]=>K (.tup [I (inQ a).1,I (inQ a).2]) | _=>False
theorem k31:aF Tryz.prog c31:=by
 refine aC rfl (enters_of Tryz.func130 (by kernel_rfl) rfl) ?_
 intro args K h
 simp only[c31] at h
 split at h
 ·rename_i a;exact ⟨_,h,aA (Γ:=[c46,c72]) (by simp[k46,k72]) Tryz.func130 (by simp[Tryz.ntmps130]) rfl (b31 a)⟩
 ·exact h.elim
noncomputable def cmpf (p q:Rat):Int × Int:=if lim (p.num*q.den) || lim (q.num*p.den) then (0,4) else (cmpI (p.num*q.den) (q.num*p.den),0)
noncomputable def cmpQ (a b:List UInt8):Int × Int:=if chkQ a≠0 then (0,chkQ a) else if chkQ b≠0 then (0,chkQ b) else cmpf (valQ a) (valQ b)
def c77r:Con:=aJ 118 true fun args K=>match args with
 | [.str a,.str b]=>Need (chkI a=0∧chkI b=0) (K (.tup [I (cmpI (valI a) (valI b)),I 0]))
 | _=>False
theorem k77r:aF Tryz.prog c77r:=by
 refine aC rfl (enters_of Tryz.func118 (by kernel_rfl) rfl) ?_
 intro args K h
 simp only[c77r] at h
 split at h
 ·rename_i a b
  obtain ⟨⟨ha,hb⟩,h⟩:=h
  have ht:=aA (Γ:=[c94,c95,c98,c97,c76]) (by simp[k94,k95,k98,k97,k76]) Tryz.func118 (by simp[Tryz.ntmps118]) rfl (b77 a b)
  unfold aI8 chk2 at ht
  rw[ha,hb,if_neg (by simp)] at ht
  exact ⟨_,h,ht⟩
 ·exact h.elim
theorem b38 (a b:List UInt8):body Tryz.prog [c68,c46,c76,c51,c77r] {} true Tryz.f56 [S a,S b] (.tup [I (cmpQ a b).1,I (cmpQ a b).2]):=by
 unfold cmpQ
 by_cases hv:nv2 a b
 ·obtain ⟨na,nb⟩:=hv
  have ha:bU a:=⟨(cT na).1,(cT na).2.2.2⟩
  have hb:bU b:=⟨(cT nb).1,(cT nb).2.2.2⟩
  obtain ⟨p1,p2,p3⟩:=bM ha
  obtain ⟨q1,q2,q3⟩:=bM hb
  have m1:=mul8 p1 q2
  have m2:=mul8 q1 p2
  have e:cmpf (valQ a) (valQ b)=(cmpI ((valQ a).num*(valQ b).den) ((valQ b).num*(valQ a).den),0):=by
   unfold cmpf
   rw[bG (n:=(valQ a).num*(valQ b).den) (by omega),bG (n:=(valQ b).num*(valQ a).den) (by omega)]
   rfl
  rw[if_neg (by rw[iI ha];simp),if_neg (by rw[iI hb];simp),e]
  (repeat'((conv=>whnf);first|refine Zg fun _=>?_|refine Zn ?_|refine Zy ?_|fail))
  (conv=>whnf)
  (repeat'(first|exact trivial|rfl|refine And.intro ?_ ?_|fail))
 ·by_cases hca:chkQ a=0
  ·by_cases hcb:chkQ b=0
   ·rw[if_neg (by simpa using hca),if_neg (by simpa using hcb)]
    obtain ⟨r1,r2,r3⟩:=gN (cQ hca)
    obtain ⟨s1,s2,s3⟩:=gN (cQ hcb)
    have v1:=iK (valQ a)
    have v2:=iL (valQ a)
    have v3:=iK (valQ b)
    have v4:=iL (valQ b)
    by_cases hk:fN (pn (valQ a)) (pd (valQ a)) (pn (valQ b)) (pd (valQ b))
    ·have e:cmpf (valQ a) (valQ b)=(cmpI (valI (itoa (valI (pn (valQ a))*valI (pd (valQ b))))) (valI (itoa (valI (pn (valQ b))*valI (pd (valQ a))))),0):=by
      have hk2:=hk
      unfold fN at hk2
      simp only[iK,iL,aO] at hk2 ⊢
      unfold cmpf
      rw[hk2.1,hk2.2]
      rfl
     rw[e]
     have k1:=aS hk.1
     have k2:=aS hk.2
     by_cases na:nvOK a
     ·have nb:¬nvOK b:=fun e=>hv ⟨na,e⟩
      (repeat'((conv=>whnf);first|refine Zg fun _=>?_|refine Zy ?_|refine Zm ?_|fail))
      refine Need.mk ⟨⟨r1,r2⟩,s1,s2⟩ ?_
      (repeat'((conv=>whnf);first|refine Zy ?_|refine Zm ?_|fail))
      refine Need.mk ⟨k1,k2⟩ ?_
      skip
      (conv=>whnf)
      (repeat'(first|exact trivial|rfl|refine And.intro ?_ ?_|fail))
     ·(repeat'((conv=>whnf);first|refine Zg fun _=>?_|refine Zy ?_|refine Zm ?_|fail))
      refine Need.mk ⟨⟨r1,r2⟩,s1,s2⟩ ?_
      (repeat'((conv=>whnf);first|refine Zy ?_|refine Zm ?_|fail))
      refine Need.mk ⟨k1,k2⟩ ?_
      skip
      (conv=>whnf)
      (repeat'(first|exact trivial|rfl|refine And.intro ?_ ?_|fail))
    ·have e:cmpf (valQ a) (valQ b)=(0,4):=by
      unfold fN at hk
      simp only[iK,iL] at hk
      unfold cmpf
      rw[if_pos]
      apply Classical.byContradiction
      intro hn
      apply hk
      simp only[Bool.or_eq_true,not_or,Bool.not_eq_true] at hn
      exact hn
     rw[e]
     by_cases na:nvOK a
     ·have nb:¬nvOK b:=fun e=>hv ⟨na,e⟩
      (repeat'((conv=>whnf);first|refine Zg fun _=>?_|refine Zy ?_|refine Zm ?_|fail))
      refine Need.mk ⟨⟨r1,r2⟩,s1,s2⟩ ?_
      (repeat'((conv=>whnf);first|refine Zy ?_|refine Zm ?_|fail))
      (conv=>whnf)
      (repeat'(first|exact trivial|rfl|refine And.intro ?_ ?_|fail))
     ·(repeat'((conv=>whnf);first|refine Zg fun _=>?_|refine Zy ?_|refine Zm ?_|fail))
      refine Need.mk ⟨⟨r1,r2⟩,s1,s2⟩ ?_
      (repeat'((conv=>whnf);first|refine Zy ?_|refine Zm ?_|fail))
      (conv=>whnf)
      (repeat'(first|exact trivial|rfl|refine And.intro ?_ ?_|fail))
   ·rw[if_neg (by simpa using hca),if_pos hcb]
    by_cases na:nvOK a
    ·by_cases nb:nvOK b
     ·exact absurd ⟨na,nb⟩ hv
     ·(repeat'((conv=>whnf);first|refine Zg fun _=>?_|refine Zy ?_|refine Zm ?_|fail))
      (conv=>whnf)
      (repeat'(first|exact trivial|rfl|refine And.intro ?_ ?_|fail))
    ·(repeat'((conv=>whnf);first|refine Zg fun _=>?_|refine Zy ?_|refine Zm ?_|fail))
     (conv=>whnf)
     (repeat'(first|exact trivial|rfl|refine And.intro ?_ ?_|fail))
  ·rw[if_pos hca]
   by_cases na:nvOK a
   ·exact absurd (iI ⟨(cT na).1,(cT na).2.2.2⟩) hca
   ·(repeat'((conv=>whnf);first|refine Zy ?_|refine Zm ?_|fail))
    (conv=>whnf)
    (repeat'(first|exact trivial|rfl|refine And.intro ?_ ?_|fail))
def c38:Con:=aJ 56 true fun args K=>match args with | [.str a,.str b]=>K (.tup [I (cmpQ a b).1,I (cmpQ a b).2]) | _=>False
theorem k38:aF Tryz.prog c38:=by
 refine aC rfl (enters_of Tryz.func56 (by kernel_rfl) rfl) ?_
 intro args K h
 simp only[c38] at h
 split at h
 ·rename_i a b;exact ⟨_,h,aA (Γ:=[c68,c46,c76,c51,c77r]) (by simp[k68,k46,k76,k51,k77r]) Tryz.func56 (by simp[Tryz.ntmps56]) rfl (b38 a b)⟩
 ·exact h.elim
abbrev B6:Nat:=1000000
theorem get6 {l:List Int} (h:InB B6 l) (i:Nat):0≤l.getD i 0∧l.getD i 0<1000000:=h.getD0 (by decide) i
theorem v6 (m:Nat):valB B6 (aB B6 m)=m:=cP (by decide) m
theorem b141 (xs:List Int):body Tryz.prog [] { asks:=[(0,[])] } false Tryz.f206 [Ls xs] (Ls (bX xs)):=by
 (repeat'((conv=>whnf);first|refine Zg fun _=>?_|fail))
 refine Ask.mk ⟨{ X:=Nat,pre:=fun i=>i≤xs.length∧bX (xs.take i)=bX xs,mod:=fun i _=>[(3,I i)],heap:=fun i _=>[V []],mu:=fun i=>i },rfl,?_⟩
 (repeat'((conv=>whnf);first|refine Zn ?_|fail))
 refine ⟨⟨xs.length,⟨Nat.le_refl _,by rw[List.take_length]⟩,?_⟩,fun (i:Nat) hi=>?_⟩
 ·(repeat'(first|exact trivial|rfl|refine And.intro ?_ ?_|fail))
 ·obtain ⟨hi1,hi2⟩:=hi
  skip
  (refine Br.mk (fun _=>?_) (fun _=>?_))
  ·rename_i h1
   have h0:0<i:=by omega
   obtain ⟨k,rfl⟩:∃k,i=k+1:=⟨i-1,by omega⟩
   (repeat'((conv=>whnf);first|refine Zn ?_|fail))
   refine cF k (by omega) ?_
   (repeat'((conv=>whnf);first|refine Zg fun _=>?_|fail))
   (refine Br.mk (fun _=>?_) (fun _=>?_))
   ·rename_i hz
    (repeat'((conv=>whnf);first|refine Zn ?_|fail))
    refine ⟨(k:Nat),by show k<k+1;omega,⟨by omega,?_⟩,?_⟩
    ·rw[← hi2,lE _ _ (by omega),hz,dM]
    ·(repeat'(first|exact trivial|rfl|refine And.intro ?_ ?_|omega|fail))
   ·rename_i hz
    (repeat'((conv=>whnf);first|refine Zn ?_|refine Zj ?_|fail))
    (conv=>whnf)
    skip
    rw[← hi2,lE _ _ (by omega)]
    exact (jL _ _ hz).symm
  ·have:i=0:=by omega
   subst this
   (repeat'((conv=>whnf);first|refine Zn ?_|refine Z0 ?_|fail))
   (conv=>whnf)
   skip
   rw[← hi2];rfl
def c141:Con:=aJ 206 false fun args K=>match args with | [.seq (.int .i64) xs]=>K (Ls (bX xs)) | _=>False
theorem k141:aF Tryz.prog c141:=by
 refine aC rfl (enters_of Tryz.func206 (by kernel_rfl) rfl) ?_
 intro args K h
 simp only[c141] at h
 split at h
 ·rename_i xs;exact ⟨_,h,aA (Γ:=[]) (by simp) Tryz.func206 (by simp[Tryz.ntmps206]) rfl (b141 xs)⟩
 ·exact h.elim
theorem b143 (l:List Int) (i:Int) (h:0≤i):body Tryz.prog [] {} true Tryz.f236 [Ls l,I i] (I (l.getD i.toNat 0)):=by
 (repeat'((conv=>whnf);first|refine Zg fun _=>?_|fail))
 (refine Br.mk (fun _=>?_) (fun _=>?_))
 ·(repeat'((conv=>whnf);first|refine Zn ?_|fail))
  refine cF i.toNat (by omega) ?_
  (repeat'((conv=>whnf);first|refine Zg fun _=>?_|fail))
  (conv=>whnf)
  (repeat'(first|rfl|refine And.intro ?_ ?_|fail))
 ·rename_i h1
  have:l.getD i.toNat 0=0:=eA _ _ (by omega)
  skip
  (conv=>whnf)
  rw[this]
  (repeat'(first|rfl|refine And.intro ?_ ?_|fail))
def c143:Con:=aJ 236 true fun args K=>match args with | [.seq (.int .i64) l,.val (.int .i64 i)]=>Need (0≤i) (Ix i fun j=>K (I (l.getD j 0))) | _=>False
theorem k143:aF Tryz.prog c143:=by
 refine aC rfl (enters_of Tryz.func236 (by kernel_rfl) rfl) ?_
 intro args K h
 simp only[c143] at h
 split at h
 ·rename_i l i
  exact ⟨_,h.go.use h.ok,aA (Γ:=[]) (by simp) Tryz.func236 (by simp[Tryz.ntmps236]) rfl (b143 l i h.ok)⟩
 ·exact h.elim
theorem b144 (a b:List Int) (h:InB B6 a∧InB B6 b∧valB B6 b≤valB B6 a∧b.length≤a.length∧a.length≤100000):body Tryz.prog [c143,c141] { asks:=[(0,[1])] } false Tryz.f205 [Ls a,Ls b] (Ls (aB B6 (valB B6 a-valB B6 b).toNat)):=by
 obtain ⟨ha,hb,hle,hlb,hla⟩:=h
 skip
 (conv=>whnf)
 refine Ask.mk ⟨{ X:=Nat,pre:=fun i=>i≤a.length,mod:=fun i _=>[(5,.ref 1 1),(6,I (subK B6 a b i).2),(7,I i)],heap:=fun i _=>[V [],V (subK B6 a b i).1],mu:=fun i=>a.length-i,objs:=[1] },rfl,?_⟩
 (repeat'((conv=>whnf);first|refine Zn ?_|fail))
 refine ⟨⟨(0:Nat),Nat.zero_le _,by (repeat'(first|exact trivial|rfl|exact Nat.one_pos|refine And.intro ?_ ?_|fail))⟩,fun (i:Nat) (hi:i≤a.length)=>?_⟩
 obtain ⟨g1,g2,g3,_⟩:=oQ (B:=B6) (by decide) ha hb i
 have ga:=get6 ha i
 have gb:=get6 hb i
 (repeat'((conv=>whnf);first|refine Zg fun _=>?_|fail))
 (refine Br.mk (fun _=>?_) (fun _=>?_))
 ·have hlt:i<a.length:=by omega
  (repeat'((conv=>whnf);first|refine Zg fun _=>?_|refine Zn ?_|refine Zj ?_|(apply Pin.mk;apply Exists.intro)|apply Pinned.mk rfl rfl|fail))
  (refine Br.mk (fun _=>?_) (fun _=>?_))
  ·rename_i hneg
   have s1:(subK B6 a b (i+1)).1=(subK B6 a b i).1++ [a.getD i 0-b.getD i 0-(subK B6 a b i).2+1000000]:=by
    simp only[subK];rw[if_neg (by omega)];rfl
   have s2:(subK B6 a b (i+1)).2=1:=by
    simp only[subK];rw[if_neg (by omega)]
   (repeat'((conv=>whnf);first|refine Zn ?_|refine Zl ?_|fail))
   refine ⟨(i+1:Nat),by show a.length-(i+1)<a.length-i;omega,hlt,?_⟩
   (repeat'(first|exact trivial|rfl|exact Nat.one_pos|refine And.intro ?_ ?_|omega|fail))
   exact s1.symm
  ·rename_i hneg
   have s1:(subK B6 a b (i+1)).1=(subK B6 a b i).1++ [a.getD i 0-b.getD i 0-(subK B6 a b i).2]:=by
    simp only[subK];rw[if_pos (by omega)]
   have s2:(subK B6 a b (i+1)).2=0:=by
    simp only[subK];rw[if_pos (by omega)]
   (repeat'((conv=>whnf);first|refine Zn ?_|refine Zl ?_|fail))
   refine ⟨(i+1:Nat),by show a.length-(i+1)<a.length-i;omega,hlt,?_⟩
   (repeat'(first|exact trivial|rfl|exact Nat.one_pos|refine And.intro ?_ ?_|omega|fail))
   exact s1.symm
 ·have e:i=a.length:=by omega
  subst e
  have hs:=(aE7 (B:=B6) (by decide) ha hb (n:=a.length) (by omega) (by omega) hle).1
  skip
  (conv=>whnf)
  skip
  exact hs
theorem b142 (a:List Int) (d:Int) (h:InB B6 a∧(0<d∧d<1000000)∧a.length≤100000):body Tryz.prog [c141] { asks:=[(0,[])] } false Tryz.f235 [Ls a,I d] (.tup [Ls (aB B6 (valB B6 a/d).toNat),Ls (aB B6 (valB B6 a%d).toNat)]):=by
 obtain ⟨ha,hd,hla⟩:=h
 obtain ⟨q1,q2,q3⟩:=aFa (B:=B6) (by decide) hd.1 hd.2 ha
 (repeat'((conv=>whnf);first|refine Zg fun _=>?_|refine Zn ?_|refine Z8 ?_|fail))
 refine Ask.mk ⟨{ X:=Nat,pre:=fun m=>m≤a.length,mod:=fun m _=>[(7,I (divK B6 d a m).2),(8,I ((a.length:Int)-1-m))],heap:=fun m _=>[V [],V [],V (divK B6 d a m).1],mu:=fun m=>a.length-m },rfl,?_⟩
 (repeat'((conv=>whnf);first|refine Zn ?_|fail))
 refine ⟨⟨(0:Nat),Nat.zero_le _,?_⟩,fun (m:Nat) (hm:m≤a.length)=>?_⟩
 ·(repeat'(first|exact trivial|rfl|refine And.intro ?_ ?_|omega|fail))
 obtain ⟨g1,g2,g3,_⟩:=jO (B:=B6) (by decide) hd.1 ha m hm
 have ga:=get6 ha (a.length-1-m)
 skip
 (refine Br.mk (fun _=>?_) (fun _=>?_))
 ·have hlt:m<a.length:=by omega
  (repeat'((conv=>whnf);first|refine Zn ?_|fail))
  refine cF (a.length-1-m) (by omega) ?_
  (repeat'((conv=>whnf);first|refine Zg fun _=>?_|refine Za ?_|refine Zn ?_|fail))
  refine cF (a.length-1-m) (by omega) ?_
  (repeat'((conv=>whnf);first|refine Za ?_|refine Zn ?_|fail))
  refine ⟨(m+1:Nat),by show a.length-(m+1)<a.length-m;omega,hlt,?_⟩
  (repeat'(first|exact trivial|rfl|refine And.intro ?_ ?_|omega|fail))
  all_goals (rw[Int.add_comm];rfl)
 ·have e:m=a.length:=by omega
  subst e
  (repeat'((conv=>whnf);first|refine Zl ?_|fail))
  (conv=>whnf)
  (repeat'(first|exact trivial|refine And.intro ?_ ?_|fail))
  ·exact q1
  ·exact q3
theorem aHg {B:Nat} (hB:2≤B) {x:Int} (hx:0≤x∧x<B) {b:List Int} (hb:InB B b) {i:Nat} {out:List Int} (ho:InB B out) (hl:i+b.length+1≤out.length) (hz:out.getD (i+b.length) 0=0) (hc:(mulK B x b i out b.length).2=0):(mulK B x b i out (b.length+1)).1=(mulK B x b i out b.length).1:=by
 obtain ⟨h1,h2,h3,h4,h5,h6⟩:=iE hB hx hb (i:=i) ho b.length (by omega)
 simp only[mulK]
 rw[hc,h5 _ (Nat.le_refl _),hz,eA b b.length (Nat.le_refl _),Int.mul_zero,Int.add_zero,Int.add_zero,Int.zero_emod]
 refine iF (by simp) fun j hj=>?_
 rw[List.length_set] at hj
 rw[eV _ _ _ (by omega)]
 by_cases e:j=i+b.length
 ·rw[if_pos e,e,h5 _ (Nat.le_refl _),hz]
 ·rw[if_neg e]
theorem b145 (a b:List Int) (h:InB B6 a∧InB B6 b∧a.length≤100000∧b.length≤100000):body Tryz.prog [c143,c141] { asks:=[(0,[]),(2,[])] } false Tryz.f237 [Ls a,Ls b] (Ls (aB B6 (valB B6 a*valB B6 b).toNat)):=by
 obtain ⟨ha,hb,hla,hlb⟩:=h
 obtain ⟨n,hn⟩:∃n,n=a.length+b.length+1:=⟨_,rfl⟩
 (repeat'((conv=>whnf);first|refine Zg fun _=>?_|refine Zn ?_|refine Z8 ?_|fail))
 refine Ask.mk ⟨{ X:=Nat,pre:=fun i=>i≤a.length,mod:=fun i _=>[(6,I i)],heap:=fun i _=>[V [],V (mulR B6 a b (List.replicate n 0) i)],mu:=fun i=>a.length-i },rfl,?_⟩
 (repeat'((conv=>whnf);first|refine Zn ?_|fail))
 refine ⟨⟨(0:Nat),Nat.zero_le _,?_⟩,fun (i:Nat) (hi:i≤a.length)=>?_⟩
 ·(repeat'(first|exact trivial|rfl|refine And.intro ?_ ?_|fail))
  show List.replicate _ _=List.replicate _ _
  congr 1;omega
 obtain ⟨g1,g2,g3,g4⟩:=oR (B:=B6) (by decide) ha hb (n:=n) (by omega) i hi
 have ga:=get6 ha i
 (repeat'((conv=>whnf);first|refine Zg fun _=>?_|fail))
 (refine Br.mk (fun _=>?_) (fun _=>?_))
 ·have hlt:i<a.length:=by omega
  have hz:=g4 (i+b.length) (Nat.le_refl _)
  have hx:0≤a.getD i 0∧a.getD i 0<(B6:Int):=ga
  skip
  refine Ask.mk ⟨{ X:=Nat,pre:=fun k=>k≤b.length+1,mod:=fun k _=>[(8,I k),(7,I (mulK B6 (a.getD i 0) b i (mulR B6 a b (List.replicate n 0) i) k).2)],heap:=fun k _=>[V [],V (mulK B6 (a.getD i 0) b i (mulR B6 a b (List.replicate n 0) i) k).1],mu:=fun k=>b.length+1-k },rfl,?_⟩
  (repeat'((conv=>whnf);first|refine Zn ?_|fail))
  refine ⟨⟨(0:Nat),Nat.zero_le _,by (repeat'(first|exact trivial|rfl|refine And.intro ?_ ?_|fail))⟩,fun (k:Nat) (hk:k≤b.length+1)=>?_⟩
  obtain ⟨m1,m2,m3,_⟩:=iE (B:=B6) (by decide) (x:=a.getD i 0) hx hb (i:=i) g2 k (by omega)
  have m3:0≤(mulK B6 (a.getD i 0) b i (mulR B6 a b (List.replicate n 0) i) k).2∧(mulK B6 (a.getD i 0) b i (mulR B6 a b (List.replicate n 0) i) k).2<1000000:=m3
  have hrow:=(aE8 (B:=B6) (by decide) (x:=a.getD i 0) hx hb (i:=i) g2 (by omega) hz).1
  have gb:=get6 hb k
  have gm:=get6 m2 (i+k)
  have hm:0≤a.getD i 0*b.getD k 0∧a.getD i 0*b.getD k 0≤999999*999999:=⟨Int.mul_nonneg ga.1 gb.1,Int.mul_le_mul (by omega) (by omega) gb.1 (by omega)⟩
  by_cases hg:k<b.length∨(mulK B6 (a.getD i 0) b i (mulR B6 a b (List.replicate n 0) i) k).2>0
  ·have hlt2:k<b.length+1:=by
    rcases hg with hg | hg
    ·omega
    ·by_cases e:k=b.length+1
     ·rw[e,hrow] at hg;omega
     ·omega
   (repeat'((conv=>whnf);first|refine Zg fun _=>?_|refine Za ?_|refine Zn ?_|refine Zj ?_|(apply Pin.mk;apply Exists.intro)|apply Pinned.mk rfl rfl|refine Zy ?_|refine Zr (fun _=>?_) fun _=>?_|fail))
   all_goals first | (exfalso;omega) | skip
   all_goals (skip;refine ⟨(k+1:Nat),by show b.length+1-(k+1)<b.length+1-k;omega,hlt2,?_⟩;(repeat'(first|exact trivial|rfl|refine And.intro ?_ ?_|fail)))
  ·have hc:(mulK B6 (a.getD i 0) b i (mulR B6 a b (List.replicate n 0) i) k).2=0:=by omega
   have hfin:(mulK B6 (a.getD i 0) b i (mulR B6 a b (List.replicate n 0) i) k).1=mulR B6 a b (List.replicate n 0) (i+1):=by
    by_cases e:k=b.length
    ·subst e
     exact (aHg (B:=B6) (by decide) hx hb g2 (by omega) hz hc).symm
    ·have e:k=b.length+1:=by omega
     subst e;rfl
   (repeat'((conv=>whnf);first|refine Zg fun _=>?_|refine Zn ?_|refine Zm ?_|fail))
   all_goals first | (exfalso;omega) | skip
   all_goals (skip;refine ⟨(i+1:Nat),by show a.length-(i+1)<a.length-i;omega,hlt,?_⟩;(repeat'(first|exact trivial|rfl|refine And.intro ?_ ?_|fail));exact hfin)
 ·have e:i=a.length:=by omega
  subst e
  skip
  (conv=>whnf)
  skip
  exact aE9 (B:=B6) (by decide) ha hb (by omega)
def c144:Con:=aJ 205 false fun args K=>match args with | [.seq (.int .i64) a,.seq (.int .i64) b]=>Need (InB B6 a∧InB B6 b∧valB B6 b≤valB B6 a∧b.length≤a.length∧a.length≤100000) (K (Ls (aB B6 (valB B6 a-valB B6 b).toNat))) | _=>False
theorem k144:aF Tryz.prog c144:=by
 refine aC rfl (enters_of Tryz.func205 (by kernel_rfl) rfl) ?_
 intro args K h
 simp only[c144] at h
 split at h
 ·rename_i a b;exact ⟨_,h.go,aA (Γ:=[c143,c141]) (by simp[k143,k141]) Tryz.func205 (by simp[Tryz.ntmps205]) rfl (b144 a b h.ok)⟩
 ·exact h.elim
def c142:Con:=aJ 235 false fun args K=>match args with | [.seq (.int .i64) a,.val (.int .i64 d)]=>Need (InB B6 a∧(0<d∧d<1000000)∧a.length≤100000) (K (.tup [Ls (aB B6 (valB B6 a/d).toNat),Ls (aB B6 (valB B6 a%d).toNat)])) | _=>False
theorem k142:aF Tryz.prog c142:=by
 refine aC rfl (enters_of Tryz.func235 (by kernel_rfl) rfl) ?_
 intro args K h
 simp only[c142] at h
 split at h
 ·rename_i a d;exact ⟨_,h.go,aA (Γ:=[c141]) (by simp[k141]) Tryz.func235 (by simp[Tryz.ntmps235]) rfl (b142 a d h.ok)⟩
 ·exact h.elim
def c145:Con:=aJ 237 false fun args K=>match args with | [.seq (.int .i64) a,.seq (.int .i64) b]=>Need (InB B6 a∧InB B6 b∧a.length≤100000∧b.length≤100000) (K (Ls (aB B6 (valB B6 a*valB B6 b).toNat))) | _=>False
theorem k145:aF Tryz.prog c145:=by
 refine aC rfl (enters_of Tryz.func237 (by kernel_rfl) rfl) ?_
 intro args K h
 simp only[c145] at h
 split at h
 ·rename_i a b;exact ⟨_,h.go,aA (Γ:=[c143,c141]) (by simp[k143,k141]) Tryz.func237 (by simp[Tryz.ntmps237]) rfl (b145 a b h.ok)⟩
 ·exact h.elim
def sgnI (x:Int):Int:=if x<0 then -1 else if x=0 then 0 else 1
theorem b146 (a b:List Int) (h:InB B6 a∧InB B6 b):body Tryz.prog [] { asks:=[(0,[])] } true Tryz.f204 [Ls a,Ls b] (I (sgnI (cmpL a b))):=by
 obtain ⟨ha,hb⟩:=h
 (repeat'((conv=>whnf);first|refine Zg fun _=>?_|fail))
 (refine Br.mk (fun _=>?_) (fun _=>?_))
 ·rename_i h1
  have hc:cmpL a b=(a.length:Int)-b.length:=by unfold cmpL;rw[if_neg (by omega)]
  rw[hc]
  (repeat'((conv=>whnf);first|refine Zg fun _=>?_|fail))
  (refine Br.mk (fun _=>?_) (fun _=>?_))
  ·rename_i h2
   skip
   (conv=>whnf)
   (repeat'(first|rfl|refine And.intro ?_ ?_|fail))
   unfold sgnI;rw[if_pos (by omega)]
  ·rename_i h2
   skip
   (conv=>whnf)
   (repeat'(first|rfl|refine And.intro ?_ ?_|fail))
   unfold sgnI;rw[if_neg (by omega),if_neg (by omega)]
 ·rename_i h1
  have hl:a.length=b.length:=by omega
  have hc:cmpL a b=eW a b a.length:=by unfold cmpL;rw[if_pos hl]
  rw[hc]
  (repeat'((conv=>whnf);first|refine Zg fun _=>?_|refine Zn ?_|fail))
  refine Ask.mk ⟨{ X:=Nat,pre:=fun m=>m≤a.length∧eW a b a.length=eW a b (a.length-m),mod:=fun m _=>[(5,I ((a.length:Int)-1-m))],heap:=fun _ _=>[],mu:=fun m=>a.length-m },rfl,?_⟩
  (repeat'((conv=>whnf);first|refine Zn ?_|fail))
  refine ⟨⟨(0:Nat),⟨Nat.zero_le _,rfl⟩,by (repeat'(first|exact trivial|rfl|refine And.intro ?_ ?_|omega|fail))⟩,fun (i:Nat) hi=>?_⟩
  obtain ⟨hi1,hi2⟩:=hi
  skip
  (refine Br.mk (fun _=>?_) (fun _=>?_))
  ·have hlt:i<a.length:=by omega
   obtain ⟨m,hm⟩:∃m,a.length-i=m+1:=⟨a.length-i-1,by omega⟩
   have e2:a.length-(i+1)=m:=by omega
   have ga:=get6 ha m
   have gb:=get6 hb m
   rw[hm,eW] at hi2
   (repeat'((conv=>whnf);first|refine Zn ?_|(apply Pin.mk;apply Exists.intro)|apply Pinned.mk rfl rfl|fail))
   refine cF m (by omega) ?_
   (repeat'((conv=>whnf);first|refine Zg fun _=>?_|refine Zn ?_|(apply Pin.mk;apply Exists.intro)|apply Pinned.mk rfl rfl|fail))
   refine cF m (by omega) ?_
   (repeat'((conv=>whnf);first|refine Zg fun _=>?_|(apply Pin.mk;apply Exists.intro)|apply Pinned.mk rfl rfl|fail))
   (refine Br.mk (fun _=>?_) (fun _=>?_))
   ·rename_i h2
    rw[if_neg (by omega)] at hi2
    skip
    (conv=>whnf)
    (repeat'(first|rfl|refine And.intro ?_ ?_|fail))
    unfold sgnI;rw[hi2,if_pos (by omega)]
   ·rename_i h2
    (repeat'((conv=>whnf);first|refine Zn ?_|(apply Pin.mk;apply Exists.intro)|apply Pinned.mk rfl rfl|fail))
    refine cF m (by omega) ?_
    (repeat'((conv=>whnf);first|refine Zg fun _=>?_|refine Zn ?_|(apply Pin.mk;apply Exists.intro)|apply Pinned.mk rfl rfl|fail))
    refine cF m (by omega) ?_
    (repeat'((conv=>whnf);first|refine Zg fun _=>?_|(apply Pin.mk;apply Exists.intro)|apply Pinned.mk rfl rfl|fail))
    (refine Br.mk (fun _=>?_) (fun _=>?_))
    ·rename_i h3
     rw[if_neg (by omega)] at hi2
     skip
     (conv=>whnf)
     (repeat'(first|rfl|refine And.intro ?_ ?_|fail))
     unfold sgnI;rw[hi2,if_neg (by omega),if_neg (by omega)]
    ·rename_i h3
     rw[if_pos (by omega)] at hi2
     (repeat'((conv=>whnf);first|refine Zn ?_|fail))
     refine ⟨(i+1:Nat),by show a.length-(i+1)<a.length-i;omega,⟨hlt,by rw[e2];exact hi2⟩,?_⟩
     (repeat'(first|exact trivial|rfl|refine And.intro ?_ ?_|omega|fail))
  ·have e:i=a.length:=by omega
   subst e
   rw[Nat.sub_self] at hi2
   skip
   (conv=>whnf)
   (repeat'(first|rfl|refine And.intro ?_ ?_|fail))
   unfold sgnI
   rw[hi2];rfl
def c146:Con:=aJ 204 true fun args K=>match args with | [.seq (.int .i64) a,.seq (.int .i64) b]=>Need (InB B6 a∧InB B6 b) (K (I (sgnI (cmpL a b)))) | _=>False
theorem k146:aF Tryz.prog c146:=by
 refine aC rfl (enters_of Tryz.func204 (by kernel_rfl) rfl) ?_
 intro args K h
 simp only[c146] at h
 split at h
 ·rename_i a b;exact ⟨_,h.go,aA (Γ:=[]) (by simp) Tryz.func204 (by simp[Tryz.ntmps204]) rfl (b146 a b h.ok)⟩
 ·exact h.elim
end RB
end

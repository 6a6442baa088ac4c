/-
  Part 5: a symbolic executor over the model, contracts of functions and plain laws.
-/
import Derived.Test.YtabmgmflgfoleaaGreatDoorP4
import Derived.Lib.Bytealg
section
open Go Go.Proofs Go.Eng Go.Shelf IB Go.Lib Go.RowKit
namespace RB
set_option maxRecDepth 10000
set_option linter.unusedVariables false
set_option linter.unusedSimpArgs false
theorem aR4:Builder.X72 Tryz.prog RL.lC_ren where
 sizeBuilder:=by kernel_rfl
 liesBuilder:=by kernel_rfl
theorem ex160:Builder.Extra Tryz.prog RL.lS_ren where
 sizeBuilder:=by kernel_rfl
 liesBuilder:=by kernel_rfl
 t5:=Tryz.underlying5
 a5:=Tryz.isAgg5
 z5:=Tryz.sizeOf5
 v5:=Tryz.zeroValue5
 infoByte:=by kernel_rfl
 cellsByte:=by kernel_rfl
 sizeByte:=by kernel_rfl
 neB5:=by decide
def aBg (nm:Nat) (A:SV):Prop:=A= .val (.pointer none)∨A= .ptr nm 0
def c178:Con:=vU 257 fun args H K=>match args with
 | [.ptr nm 0]=>(match hget H nm with
  | .cells [A,x] e=>Need (aBg nm A∧e=224) <| K (.tup []) (hset H nm (.cells [.ptr nm 0,x] 224))
  | _=>False)
 | _=>False
theorem k178:aH Tryz.prog c178:=by
 refine oU (enters_of Tryz.func257 (by kernel_rfl) rfl) ?_
 intro args H K h
 split at h
 case h_2=>exact h.elim
 rename_i nm
 split at h
 case h_2=>exact h.elim
 rename_i A x e ho
 obtain ⟨⟨hA,rfl⟩,hK⟩:=h
 refine ⟨fun s H'=>s= .tup []∧H'=hset H nm (.cells [.ptr nm 0,x] 224),fun s H' e=>by rw[e.1,e.2];exact hK,?_⟩
 intro G loc ver w vs hC hI hr
 cases hr with
 | cons _ v1 _ vs1 h1 hr=>
 cases hr
 obtain ⟨b,hbk,rfl⟩:=lH hI h1 (by simp only[live,ho])
 have hn:=aI ho (by simp)
 obtain ⟨h0,b',vals,g1,g2,g3⟩:=hI.objs nm _ hn
 rw[hbk] at g1;cases g1
 replace g2:w.heap[b]? =some (.cells ⟨vals⟩ 224 (0,0)):=g2
 cases g3 with
 | cons _ u _ us r1 r2=>
 cases r2 with
 | cons _ u2 _ us2 r2 r3=>
 cases r3
 have hfin:∀w':World,w'.heap.size=w.heap.size→w'.os=w.os→w'.tape=w.tape→w'.output=w.output→(∀k,k≠b→w'.heap[k]? =w.heap[k]?)→w'.heap[b]? =some (.cells #[.pointer (some ⟨b,0,none⟩),u2] 224 (0,0))→Res G (envOf G H loc ver w) (fun s H'=>s= .tup []∧H'=hset H nm (.cells [.ptr nm 0,x] 224)) (.tuple #[]) w':=by
  intro w' q1 q2 q3 q4 q5 q6
  have hin:=hI.inPlace (w':=w') (o':=.cells [.ptr nm 0,x] 224) hn (b:=b) (by simp[Owns,hbk]) (fun _ h=>h) q1 q2 q3 q4 q5
   (fun hx'=>⟨h0,b,[.pointer (some ⟨b,0,none⟩),u2],hbk,q6,.cons _ _ _ _ (h1.ext hx') (.cons _ _ _ _ (r2.ext hx') .nil)⟩)
  exact ⟨_,_,_,_,⟨rfl,rfl⟩,hin.1,.tup [] [] .nil,hin.2⟩
 rcases hA with rfl | rfl
 ·cases r1
  refine (Any.Builder_copyCheck_fresh RL.lC aR4 b w (by rw[Lib.cell_of_heap g2];rfl) (by unfold World.shape?;rw[g2];rfl) (Lib.frozen_of_heap g2 0)).mono ?_
  rintro e w' ⟨rfl,rfl⟩
  exact ⟨_,rfl,hfin _ (by simp[World.setCell]) rfl rfl rfl (fun k hk=>Below.heap_setCell w _ _ k hk) (by unfold World.setCell;rw[Array.getElem?_modify];simp[g2])⟩
 ·obtain ⟨b2,hb2,rfl⟩:=lH hI r1 (by simp only[live,ho])
  rw[hbk] at hb2;cases hb2
  refine (Any.Builder_copyCheck_used RL.lC aR4 b w (by rw[Lib.cell_of_heap g2];rfl)).mono ?_
  rintro e w' ⟨rfl,rfl⟩
  exact ⟨_,rfl,hfin _ rfl rfl rfl rfl (fun _ _=>rfl) g2⟩
abbrev H3 (p:Prop) (hp:Decidable p) (a:List Int) (A:SV) (k:Nat) (bs:List Int):List HO:=[.cells [.bl p hp,Ls a] 150,.cells [A,.ref 2 k] 224,.vec k (.int .u8) bs 5]
theorem b157 (p:Prop) (hp:Decidable p) (a:List Int) (A:SV) (hA:aBg 1 A) (bs:List Int) (hl:bs.length≤1000000):
  aEi Tryz.prog [c178] {} Tryz.f231 [.ptr 1 0,.val (.int .u8 45)] (H3 p hp a A 1 bs) (fun s H'=>s= .val .nilIface∧H'=H3 p hp a (.ptr 1 0) 2 (List.append (α:=Int) bs [45])):=by
 (conv=>whnf)
 refine Need.mk rfl ?_
 (repeat'((conv=>whnf);first|refine Zn ?_|refine Zl ?_|fail))
 (conv=>whnf)
 refine ⟨_,_,⟨rfl,rfl⟩,rfl,rfl,rfl,rfl,?_⟩
 (repeat'(first|exact trivial|rfl|refine And.intro ?_ ?_|fail))
theorem b158 (p:Prop) (hp:Decidable p) (a:List Int) (A:SV) (hA:aBg 1 A) (k:Nat) (hk:k=1∨k=2) (bs:List Int) (s:List UInt8) (hl:bs.length+s.length≤1000000):
  aEi Tryz.prog [c178] {} Tryz.f232 [.ptr 1 0,S s] (H3 p hp a A k bs++ [.gone]) (fun r H'=>r= .tup [I s.length,.val .nilIface]∧H'=H3 p hp a (.ptr 1 0) (k+1) (List.append (α:=Int) bs (aR s))++ [.gone]):=by
 rcases hk with rfl | rfl
 ·(conv=>whnf)
  refine Need.mk rfl ?_
  (repeat'((conv=>whnf);first|refine Zg fun _=>?_|refine Zn ?_|fail))
  (conv=>whnf)
  refine ⟨_,_,⟨rfl,rfl⟩,rfl,?_,rfl,rfl,?_⟩
  all_goals (repeat'(first|exact trivial|rfl|refine And.intro ?_ ?_|fail))
 ·(conv=>whnf)
  refine Need.mk rfl ?_
  (repeat'((conv=>whnf);first|refine Zg fun _=>?_|refine Zn ?_|fail))
  (conv=>whnf)
  refine ⟨_,_,⟨rfl,rfl⟩,rfl,?_,rfl,rfl,?_⟩
  all_goals (repeat'(first|exact trivial|rfl|refine And.intro ?_ ?_|fail))
def c157:Con:=vU 231 fun args H K=>match args,H with
 | [.ptr 1 0,.val (.int .u8 45)],[.cells [.bl p hp,.seq (.int .i64) a] e1,.cells [A,.ref 2 1] e2,.vec 1 (.int .u8) bs e3]=>
  Need (aBg 1 A∧e1=150∧e2=224∧e3=5∧List.length (α:=Int) bs≤1000000) (K (.val .nilIface) (H3 p hp a (.ptr 1 0) 2 (List.append (α:=Int) bs [45])))
 | _,_=>False
theorem k157:aH Tryz.prog c157:=by
 refine oU (enters_of Tryz.func231 (by kernel_rfl) rfl) ?_
 intro args H K h
 split at h
 ·obtain ⟨⟨hA,rfl,rfl,rfl,hl⟩,hK⟩:=h
  refine ⟨_,?_,mI (Γ:=[c178]) (by simp[k178]) Tryz.func231 (by simp[Tryz.ntmps231]) (b157 _ _ _ _ hA _ hl)⟩
  rintro s H' ⟨rfl,rfl⟩
  exact hK
 ·exact h.elim
def c158:Con:=vU 232 fun args H K=>match args,H with
 | [.ptr 1 0,.str s],[.cells [.bl p hp,.seq (.int .i64) a] e1,.cells [A,.ref 2 k] e2,.vec k' (.int .u8) bs e3,.gone]=>
  Need (aBg 1 A∧k'=k∧(k=1∨k=2)∧e1=150∧e2=224∧e3=5∧List.length (α:=Int) bs+s.length≤1000000) (K (.tup [I s.length,.val .nilIface]) (H3 p hp a (.ptr 1 0) (k+1) (List.append (α:=Int) bs (aR s))++ [.gone]))
 | _,_=>False
theorem k158:aH Tryz.prog c158:=by
 refine oU (enters_of Tryz.func232 (by kernel_rfl) rfl) ?_
 intro args H K h
 split at h
 ·obtain ⟨⟨hA,rfl,hk,rfl,rfl,rfl,hl⟩,hK⟩:=h
  refine ⟨_,?_,mI (Γ:=[c178]) (by simp[k178]) Tryz.func232 (by simp[Tryz.ntmps232]) (b158 _ _ _ _ hA _ hk _ _ hl)⟩
  rintro s H' ⟨rfl,rfl⟩
  exact hK
 ·exact h.elim
set_option maxHeartbeats 2000000 in
set_option maxRecDepth 100000 in
theorem aMa {P:Program} {ρ:Ren} (L:Lays.n169 P ρ) (X:Builder.Extra P ρ) (b g cap:Nat) (p:Value) (cur:Array Value) (l:List UInt8) (w:World) (h0:l≠ []) (hbk:w.heap[b]? =some (.cells #[p,.slice (some ⟨g,0,none⟩) l.length cap] (ρ.t 72) (0,0)))
  (hg:w.heap[g]? =some (.cells cur (ρ.t 5) (0,0))) (hnc:l.length≤cap) (hcm:cap≤maxLen) (hcs:cap≤cur.size) (hcell:∀(j:Nat) (x:UInt8),l[j]? =some x→cur[j]? =some (Value.int .u8 x.toNat)):
  Calls P (ρ.f 169) #[.pointer (some ⟨b,0,none⟩)] w fun e w'=>e= .returned (.string ⟨l.toArray⟩)∧w'=w.drew.freeze ⟨g,0,none⟩ l.length:=by
 have hl0:l.length≠0:=by simpa using h0
 have c1:w.drew.cell? ⟨b,1,none⟩=some (.slice (some ⟨g,0,none⟩) l.length cap):=by
  have:w.drew.heap[b]? =some (.cells #[p,.slice (some ⟨g,0,none⟩) l.length cap] (ρ.t 72) (0,0)):=hbk
  rw[Lib.cell_of_heap this];rfl
 have hSD:(Builtin.unsafeSliceData_ #[(ρ.t 37)] (ρ.t 127) #[.slice (some ⟨g,0,none⟩) l.length cap]).run P w.drew= .ok (.pointer (some ⟨g,0,none⟩)) w.drew:=
  Lib.run_unsafeSliceData_row _ _ _ _ _ _ (by omega)
 have hUS:(Builtin.unsafeString_ #[(ρ.t 127),(ρ.t 3)] (ρ.t 9) #[.pointer (some ⟨g,0,none⟩),.int .i64 l.length]).run P w.drew= .ok (.string ⟨l.toArray⟩) (w.drew.freeze ⟨g,0,none⟩ l.length):=by
  refine Lib.run_unsafeString_row w.drew (ρ.t 127) (ρ.t 3) (ρ.t 9) (ρ.t 5) L.t127 X.cellsByte g cur.size (by have hg':w.drew.heap[g]? =some (.cells cur (ρ.t 5) (0,0)):=hg;simp[World.shape?,hg']) l h0 (by omega) (by unfold maxLen at hcm;omega) ?_
  intro j x hx
  have hg':w.drew.heap[g]? =some (.cells cur (ρ.t 5) (0,0)):=hg
  rw[Addr.add_mid,Lib.cell_of_heap hg',Nat.zero_add]
  exact hcell j x hx
 have mixed:=L.mixed
 have t72:=L.t72;have a72:=L.a72;have z72:=L.z72;have v72:=L.v72;have u72:=run_underlying L.t72
 have t70:=L.t70;have a70:=L.a70;have z70:=L.z70;have v70:=L.v70;have u70:=run_underlying L.t70
 have t37:=L.t37;have a37:=L.a37;have z37:=L.z37;have v37:=L.v37;have u37:=run_underlying L.t37
 have t127:=L.t127;have a127:=L.a127;have z127:=L.z127;have v127:=L.v127;have u127:=run_underlying L.t127
 have t3:=L.t3;have a3:=L.a3;have z3:=L.z3;have v3:=L.v3;have u3:=run_underlying L.t3
 have t9:=L.t9;have a9:=L.a9;have z9:=L.z9;have v9:=L.v9;have u9:=run_underlying L.t9
 have t5:=X.t5;have a5:=X.a5;have z5:=X.z5;have v5:=X.v5;have u5:=run_underlying X.t5
 go_enter L.f169,Body.n169_ntmps ρ
 go_wp2
 go_region_o
 all_goals (go_wp2;go_ret;exact ⟨rfl,rfl⟩)
def ofI (bs:List Int):List UInt8:=bs.map fun n=>UInt8.ofNat n.toNat
theorem yQ (l:List UInt8):ofI (aR l)=l:=by
 unfold ofI aR
 rw[List.map_map]
 conv=>rhs;rw[← List.map_id l]
 refine List.map_congr_left fun x _=>?_
 simp
def c160:Con:=vU 234 fun args H K=>match args with
 | [.ptr nm 0]=>(match hget H nm with
  | .cells [A,.ref nm2 k] e=>(match hget H nm2 with
   | .vec k' (.int .u8) bs e'=>Need (aBg nm A∧k'=k∧e=224∧e'=5∧0<List.length (α:=Int) bs∧nm≠nm2) (K (.str (ofI bs)) (hset H nm2 .dead))
   | _=>False)
  | _=>False)
 | _=>False
theorem k160:aH Tryz.prog c160:=by
 refine oU (enters_of Tryz.func234 (by kernel_rfl) rfl) ?_
 intro args H K h
 split at h
 case h_2=>exact h.elim
 rename_i nm
 split at h
 case h_2=>exact h.elim
 rename_i A nm2 k e ho
 split at h
 case h_2=>exact h.elim
 rename_i k' bs e' ho2
 obtain ⟨⟨hA,hkk,rfl,rfl,hpos,hne⟩,hK⟩:=h
 subst hkk
 refine ⟨fun s H'=>s= .str (ofI bs)∧H'=hset H nm2 .dead,fun s H' e=>by rw[e.1,e.2];exact hK,?_⟩
 intro G loc ver w vs hC hI hr
 cases hr with
 | cons _ v1 _ vs1 h1 hr=>
 cases hr
 obtain ⟨b,hbk,rfl⟩:=lH hI h1 (by simp only[live,ho])
 have hn:=aI ho (by simp)
 have hn2:=aI ho2 (by simp)
 obtain ⟨h0,b',vals,g1,g2,g3⟩:=hI.objs nm _ hn
 rw[hbk] at g1;cases g1
 replace g2:w.heap[b]? =some (.cells ⟨vals⟩ 224 (0,0)):=g2
 cases g3 with
 | cons _ u _ us r1 r2=>
 cases r2 with
 | cons _ u2 _ us2 r2 r3=>
 cases r3
 obtain ⟨hu2,hlt2⟩:=jH hI r2 ho2
 subst hu2
 obtain ⟨q1,q2,hlen,hmax,vs2,hown,hel⟩:=hI.objs nm2 _ hn2
 have hlen':(loc nm2).len=List.length (α:=Int) bs:=hlen
 have hmax':(loc nm2).len≤140737488355328:=hmax
 have hel':∀i,i<(loc nm2).len→Reads w (okN G H loc w) (.int .u8) (List.getD (α:=Int) bs i 0) ((vs2.drop (i*1)).take 1):=hel
 rcases aU hown with ⟨_,_,_,e4⟩ | ⟨g,cur,e1,e2,e3,e4,e5,e6,e7⟩
 ·omega
 have e3':w.heap[g]? =some (.cells cur 5 (0,0)):=e3
 have hol:(ofI bs).length=List.length (α:=Int) bs:=by simp[ofI]
 have e7':cur.toList.take (List.length (α:=Int) bs)=vs2:=by rw[← hlen'];simpa [Ty.size] using e7
 have hcell:∀(j:Nat) (x:UInt8),(ofI bs)[j]? =some x→cur[j]? =some (Value.int .u8 x.toNat):=by
  intro j x hj
  have hjl:j<List.length (α:=Int) bs:=by rw[← hol];exact (List.getElem?_eq_some_iff.1 hj).1
  have hR:=hel' j (by omega)
  have hg1:List.getD (α:=Int) bs j 0=bs[j]:=by simp[List.getD_eq_getElem?_getD,hjl]
  have hx:x=UInt8.ofNat (bs[j]:Int).toNat:=by
   simp[ofI,hjl] at hj
   exact hj.symm
  obtain ⟨hR1,hR2⟩:=hR
  have hR2:(0:Int)≤List.getD (α:=Int) bs j 0∧List.getD (α:=Int) bs j 0≤255:=hR2
  have hjc:(cur.toList.take (List.length (α:=Int) bs))[j]? =some (Value.int .u8 (List.getD (α:=Int) bs j 0)):=by
   rw[e7']
   have h1:((vs2.drop (j*1)).take 1)[0]? =some (Value.int .u8 (List.getD (α:=Int) bs j 0)):=by rw[hR1];rfl
   simpa using h1
  rw[List.getElem?_take,if_pos hjl] at hjc
  rw[← Array.getElem?_toList,hjc,hx]
  rw[hg1] at hR2 ⊢
  congr 2
  simp only[UInt8.toNat_ofNat']
  omega
 have hhead:(loc nm2).head= .slice (some ⟨g,0,none⟩) (ofI bs).length (loc nm2).cap:=by simp[Core.head,e1,e2,hlen',hol]
 have hb3:w.heap[b]? =some (.cells #[u,.slice (some ⟨g,0,none⟩) (ofI bs).length (loc nm2).cap] 224 (0,0)):=by rw[← hhead];exact g2
 refine (aMa RL.lS ex160 b g (loc nm2).cap u cur (ofI bs) w (by intro e;rw[e] at hol;simp at hol;omega) hb3 e3' (by omega) e5 (by simpa [Ty.size] using e6) hcell).mono ?_
 rintro e w' ⟨rfl,rfl⟩
 refine ⟨_,rfl,?_⟩
 have hfr:∀c,c≠g→(w.drew.freeze ⟨g,0,none⟩ (ofI bs).length).heap[c]? =w.heap[c]? :=by
  intro c hc
  unfold World.freeze
  split
  ·rfl
  ·show (w.heap.modify _ _)[c]? = _
   rw[Array.getElem?_modify,if_neg (fun e=>hc e.symm)]
 have hsz:(w.drew.freeze ⟨g,0,none⟩ (ofI bs).length).heap.size=w.heap.size:=by
  unfold World.freeze
  split
  ·rfl
  ·simp
 have hin:=hI.inPlace (w':=w.drew.freeze ⟨g,0,none⟩ (ofI bs).length) (o':=.dead) hn2 (b:=g) (by simp[Owns,e1]) (fun _ h=>h.elim) hsz (by unfold World.freeze;split<;>rfl) (by unfold World.freeze;split<;>rfl) (by unfold World.freeze;split<;>rfl) hfr (fun _=>trivial)
 exact ⟨_,_,_,_,⟨rfl,rfl⟩,hin.1,.str _ (by show (ofI bs).length≤140737488355328;omega),hin.2⟩
theorem kY (a b:List UInt8):aR (a++b)=List.append (α:=Int) (aR a) (aR b):=by simp[aR]
theorem uU (p w r t:List UInt8):List.append (α:=Int) (List.append (α:=Int) (aR (p++w)) (aR r)) (aR t)=aR (p++(w++(r++t))):=by
 rw[← kY,← kY]
 simp only[List.append_assoc]
theorem aGl (p w t:List UInt8):List.append (α:=Int) (aR (p++w)) (aR t)=aR (p++(w++([]++t))):=by
 rw[← kY,List.append_assoc,List.nil_append]
def wrA:Nat→SV
 | 0=>.val (.pointer none)
 | _+1=>.ptr 1 0
theorem aKb {x:Int} (h:0≤x∧x<1000000000):(itoa x).length≤9:=by
 unfold itoa
 rw[if_neg (by omega)]
 exact gT 8 _ (by omega)
theorem gY {x:Int}:0<(itoa x).length:=by
 cases h:itoa x with
 | nil=>exact absurd h (by unfold itoa;split<;>simp[yD])
 | cons=>simp
theorem aKc (a:List Int) (m:Nat):0<(wrK a (m+1)).length:=by
 have:=gY (x:=a.getD (a.length-1-m) 0)
 show 0<(wrK a m++((if 0<m then List.replicate (9-(itoa (a.getD (a.length-1-m) 0)).length) 48 else [])++itoa (a.getD (a.length-1-m) 0))).length
 simp only[List.length_append];omega
theorem vP {a:List Int} (h:InB B9 a):∀i,(wrK a i).length≤9*i
 | 0=>Nat.le_refl _
 | i+1=>by
  have h1:=vP h i
  have h2:=aKb (get9 h (a.length-1-i))
  show (wrK a i++((if 0<i then List.replicate (9-(itoa (a.getD (a.length-1-i) 0)).length) 48 else [])++itoa (a.getD (a.length-1-i) 0))).length≤9*(i+1)
  by_cases h0:0<i
  ·rw[if_pos h0];simp only[List.length_append,List.length_replicate];omega
  ·rw[if_neg h0];simp only[List.length_append,List.length_nil];omega
theorem b128 (p:Prop) (hp:Decidable p) (a:List Int) (h:InB B9 a∧a.length≤200):body Tryz.prog [c157,c158,c160,c61,c159,c135,c166] { asks:=[(0,[2])] } true Tryz.f193 [.agg [.bl p hp,Ls a]] (S (if a= [] then [48] else (if p then [45] else [])++wrK a a.length)):=by
 (repeat'((conv=>whnf);first|refine Zg fun _=>?_|fail))
 (refine Br.mk (fun _=>?_) (fun _=>?_))
 ·rename_i hz
  have e:a= []:=List.eq_nil_of_length_eq_zero (by omega)
  skip
  (conv=>whnf)
  skip
  rw[if_pos e]
 ·rename_i hz
  skip
  refine Own.r ?_
  (conv=>whnf)
  refine ⟨1,.int .u8,5,?_⟩
  skip
  (refine Br.mk (fun _=>?_) (fun _=>?_))
  ·rename_i hp'
   skip
   (conv=>whnf)
   refine Need.mk ⟨.inl rfl,rfl,rfl,rfl,Nat.zero_le _⟩ ?_
   skip
   (conv=>whnf)
   refine Ask.mk ⟨{ X:=Nat,pre:=fun i=>i≤a.length,mod:=fun i _=>[],heap:=fun i H=>[hget H 0,.cells [.ptr 1 0,.ref 2 1] 224,.vec 1 (.int .u8) (aR ([45]++wrK a i)) 5],mu:=fun i=>i,objs:=[2] },rfl,?_⟩
   (repeat'((conv=>whnf);first|refine Zn ?_|fail))
   refine ⟨⟨(0:Nat),rfl,Nat.zero_le _,?_⟩,fun (i:Nat) hi (hlt:i<a.length)=>?_,fun (i:Nat) hi (he:i=a.length)=>?_⟩
   ·(repeat'(first|exact trivial|rfl|exact Nat.one_pos|refine And.intro ?_ ?_|fail))
   ·have hx:=aKb (get9 h.1 (a.length-1-i))
    have hb:([45]++wrK a i).length≤1+9*i:=by have:=vP h.1 i;simp only[List.length_append,List.length_cons,List.length_nil];omega
    rw[← bW] at hb
    have h2:=h.2
    have hst:wrK a (i+1)=wrK a i++((if 0<i then List.replicate (9-(itoa (a.getD (a.length-1-i) 0)).length) 48 else [])++itoa (a.getD (a.length-1-i) 0)):=rfl
    show hnfL (itB a i) _
    (repeat'((conv=>whnf);first|refine Zg fun _=>?_|refine Zn ?_|fail))
    (refine Br.mk (fun _=>?_) (fun _=>?_))
    ·rw[if_pos (by omega)] at hst
     (repeat'((conv=>whnf);first|refine Zg fun _=>?_|refine Zn ?_|fail))
     refine Need.mk ⟨.inr rfl,rfl,.inl rfl,rfl,rfl,rfl,?_⟩ ?_
     ·show _+(List.replicate (9-((itoa (a.getD (a.length-1-i) 0)).length:Int)).toNat 48).length≤1000000
      rw[List.length_replicate];omega
     skip
     refine Need.mk ⟨.inr rfl,rfl,.inr rfl,rfl,rfl,rfl,?_⟩ ?_
     ·show (List.append (α:=Int) _ (aR (List.replicate (9-((itoa (a.getD (a.length-1-i) 0)).length:Int)).toNat 48))).length+ _≤1000000
      show (_++ _:List Int).length+ _≤ _
      rw[List.length_append,bW (List.replicate _ _),List.length_replicate];omega
     skip
     refine ⟨(i+1:Nat),rfl,hlt,?_⟩
     (repeat'(first|exact trivial|rfl|exact Nat.one_pos|refine And.intro ?_ ?_|fail))
     rw[hst,show (9-((itoa (a.getD (a.length-1-i) 0)).length:Int)).toNat=9-(itoa (a.getD (a.length-1-i) 0)).length by omega]
     exact uU [45] _ _ _
    ·rw[if_neg (by omega)] at hst
     skip
     refine Need.mk ⟨.inr rfl,rfl,.inl rfl,rfl,rfl,rfl,by omega⟩ ?_
     skip
     refine ⟨(i+1:Nat),rfl,hlt,?_⟩
     (repeat'(first|exact trivial|rfl|exact Nat.one_pos|refine And.intro ?_ ?_|fail))
     rw[hst]
     exact aGl [45] _ _
   ·subst he
    have hpos:0<(aR ([45]++wrK a a.length)).length:=by
     rw[bW]
     obtain ⟨m,hm⟩:∃m,a.length=m+1:=⟨a.length-1,by omega⟩
     have:=aKc a m
     rw[hm,List.length_append];omega
    skip
    refine Need.mk ⟨.inr rfl,rfl,rfl,rfl,hpos,by show (1:Nat)≠2;decide⟩ ?_
    skip
    (conv=>whnf)
    skip
    rw[if_neg (by intro e;rw[e] at hz;exact hz rfl),if_pos hp',yQ]
  ·rename_i hp'
   skip
   refine Ask.mk ⟨{ X:=Nat,pre:=fun i=>i≤a.length,mod:=fun i _=>[],heap:=fun i H=>[hget H 0,.cells [wrA i,.ref 2 1] 224,.vec 1 (.int .u8) (aR ([]++wrK a i)) 5],mu:=fun i=>i,objs:=[2] },rfl,?_⟩
   (repeat'((conv=>whnf);first|refine Zn ?_|fail))
   refine ⟨⟨(0:Nat),rfl,Nat.zero_le _,?_⟩,fun (i:Nat) hi (hlt:i<a.length)=>?_,fun (i:Nat) hi (he:i=a.length)=>?_⟩
   ·(repeat'(first|exact trivial|rfl|exact Nat.one_pos|refine And.intro ?_ ?_|fail))
   ·have h2:=h.2
    rcases i with _ | k
    ·have hx:=aKb (get9 h.1 (a.length-1-(0)))
     have hb:([]++wrK a (0)).length≤1+9*(0):=by have:=vP h.1 (0);simp only[List.length_append,List.length_nil];omega
     rw[← bW] at hb
     have hst:wrK a (0+1)=wrK a (0)++((if 0<(0) then List.replicate (9-(itoa (a.getD (a.length-1-(0)) 0)).length) 48 else [])++itoa (a.getD (a.length-1-(0)) 0)):=rfl
     show hnfL (itB a (0)) _
     (repeat'((conv=>whnf);first|refine Zg fun _=>?_|refine Zn ?_|fail))
     (refine Br.mk (fun _=>?_) (fun _=>?_))
     ·exfalso;omega
     ·rw[if_neg (by omega)] at hst
      skip
      refine Need.mk ⟨.inl rfl,rfl,.inl rfl,rfl,rfl,rfl,by omega⟩ ?_
      skip
      refine ⟨(0+1:Nat),rfl,hlt,?_⟩
      (repeat'(first|exact trivial|rfl|exact Nat.one_pos|refine And.intro ?_ ?_|fail))
    ·have hx:=aKb (get9 h.1 (a.length-1-(k+1)))
     have hb:([]++wrK a (k+1)).length≤1+9*(k+1):=by have:=vP h.1 (k+1);simp only[List.length_append,List.length_nil];omega
     rw[← bW] at hb
     have hst:wrK a (k+1+1)=wrK a (k+1)++((if 0<(k+1) then List.replicate (9-(itoa (a.getD (a.length-1-(k+1)) 0)).length) 48 else [])++itoa (a.getD (a.length-1-(k+1)) 0)):=rfl
     show hnfL (itB a (k+1)) _
     (repeat'((conv=>whnf);first|refine Zg fun _=>?_|refine Zn ?_|fail))
     (refine Br.mk (fun _=>?_) (fun _=>?_))
     ·rw[if_pos (by omega)] at hst
      (repeat'((conv=>whnf);first|refine Zg fun _=>?_|refine Zn ?_|fail))
      refine Need.mk ⟨.inr rfl,rfl,.inl rfl,rfl,rfl,rfl,?_⟩ ?_
      ·show _+(List.replicate (9-((itoa (a.getD (a.length-1-(k+1)) 0)).length:Int)).toNat 48).length≤1000000
       rw[List.length_replicate];omega
      skip
      refine Need.mk ⟨.inr rfl,rfl,.inr rfl,rfl,rfl,rfl,?_⟩ ?_
      ·show (List.append (α:=Int) _ (aR (List.replicate (9-((itoa (a.getD (a.length-1-(k+1)) 0)).length:Int)).toNat 48))).length+ _≤1000000
       show (_++ _:List Int).length+ _≤ _
       rw[List.length_append,bW (List.replicate _ _),List.length_replicate];omega
      skip
      refine ⟨(k+1+1:Nat),rfl,hlt,?_⟩
      (repeat'(first|exact trivial|rfl|exact Nat.one_pos|refine And.intro ?_ ?_|fail))
      rw[hst,show (9-((itoa (a.getD (a.length-1-(k+1)) 0)).length:Int)).toNat=9-(itoa (a.getD (a.length-1-(k+1)) 0)).length by omega]
      exact uU [] _ _ _
     ·exfalso;omega
   ·obtain ⟨m,rfl⟩:∃m,i=m+1:=⟨i-1,by omega⟩
    have hpos:0<(aR ([]++wrK a (m+1))).length:=by
     rw[bW]
     exact aKc a m
    skip
    refine Need.mk ⟨.inr rfl,rfl,rfl,rfl,hpos,by show (1:Nat)≠2;decide⟩ ?_
    skip
    (conv=>whnf)
    skip
    rw[if_neg (by intro e;rw[e] at hz;exact hz rfl),if_neg hp',yQ,he]
def uV (a:List Int):Prop:=a=aD B9 (valB B9 a).toNat∧a.length≤200
theorem dD {m:Nat} (h:m<B9^200):uV (aD B9 m):=by
 refine ⟨by rw[cU (by decide),Int.toNat_natCast],?_⟩
 rcases Nat.eq_zero_or_pos m with rfl | hm
 ·rw[aX];exact Nat.zero_le _
 ·obtain ⟨h1,_,h3⟩:=dK (B:=B9) (by decide) hm
  have h1:B9^ ((aD B9 m).length-1)≤m:=by exact_mod_cast h1
  have:=(Nat.pow_lt_pow_iff_right (show 1<B9 by decide)).1 (Nat.lt_of_le_of_lt h1 h)
  omega
theorem aGm {a:List Int} (h:uV a):InB B9 a:=by rw[h.1];exact aS (by decide) _
def sgP (p:Prop) [Decidable p] (n:Int):Int:=if p then -n else n
theorem aOq (p:Prop) [hp:Decidable p] {a:List Int} (h:uV a):(if a= [] then [48] else (if p then [45] else [])++wrK a a.length)=itoa (sgP p (valB B9 a)):=by
 have hz:=cU (B:=B9) (by decide) (valB B9 a).toNat
 rw[← h.1] at hz
 by_cases e:a= []
 ·rw[if_pos e]
  subst e
  have:sgP p (valB B9 [])=0:=by unfold sgP;split<;>rfl
  rw[this]
  unfold itoa
  rw[if_neg (by omega)]
  exact (cF (show 0<10 by omega)).symm
 ·rw[if_neg e]
  have hl:a.getLast e≠0:=by
   have:=mS (B:=B9) (by decide) (valB B9 a).toNat
   rw[← h.1] at this
   exact this e
  obtain ⟨m,hm⟩:∃m,a.length=m+1:=⟨a.length-1,by have:=List.length_pos_iff.2 e;omega⟩
  obtain ⟨h1,h2⟩:=aF6 (show InB (10^9) a from aGm h) e hl m (by omega)
  have e9:(10:Nat)^9=B9:=by decide
  rw[show a.length-1-m=0 by omega,List.drop_zero,e9] at h1 h2
  rw[hm,h2]
  have h3:=aSo (decide p) (valB B9 a).toNat
  unfold wrM at h3
  rw[if_neg (by omega)] at h3
  have h4:sgn (decide p) (valB B9 a).toNat=sgP p (valB B9 a):=by
   unfold sgn sgP
   by_cases hq:p
   ·rw[if_pos (by simp[hq]),if_pos hq];omega
   ·rw[if_neg (by simp[hq]),if_neg hq];omega
  rw[← h4,← h3]
  by_cases hq:p
  ·rw[if_pos hq,if_pos (by simp[hq])];rfl
  ·rw[if_neg hq,if_neg (by simp[hq])];rfl
def c128:Con:=aL 193 true fun args K=>match args with
 | [.agg [.bl p hp,.seq (.int .i64) a]]=>Need (uV a) (K (S (itoa (@sgP p hp (valB B9 a)))))
 | _=>False
theorem k128:aH Tryz.prog c128:=by
 refine aE rfl (enters_of Tryz.func193 (by kernel_rfl) rfl) ?_
 intro args K h
 simp only[c128] at h
 split at h
 ·rename_i p hp a
  refine ⟨_,h.go,?_⟩
  rw[← aOq p h.ok]
  exact aC (Γ:=[c157,c158,c160,c61,c159,c135,c166]) (by simp[k157,k158,k160,k61,k159,k135,k166]) Tryz.func193 (by simp[Tryz.ntmps193]) rfl (b128 p hp a ⟨aGm h.ok,h.ok.2⟩)
 ·exact h.elim
def resI (n:Int):List UInt8 × Int:=if lim n then ([],4) else (itoa n,0)
theorem b96 (p:Prop) (hp:Decidable p) (a:List Int) (h:uV a):body Tryz.prog [c128,c88] {} true Tryz.f140 [.agg [.bl p hp,Ls a]] (.tup [S (resI (sgP p (valB B9 a))).1,I (resI (sgP p (valB B9 a))).2]):=by
 have ht:=congrArg List.length (bU (sgP p (valB B9 a)))
 unfold resI lim
 (repeat'((conv=>whnf);first|refine Zg fun _=>?_|refine Zn ?_|fail))
 (refine Br.mk (fun _=>?_) (fun _=>?_))
 ·rename_i hg
  rw[if_pos (by simp;omega)]
  skip
  (conv=>whnf)
  (repeat'(first|exact trivial|rfl|refine And.intro ?_ ?_|fail))
 ·rename_i hg
  rw[if_neg (by simp;omega)]
  skip
  (conv=>whnf)
  (repeat'(first|exact trivial|rfl|refine And.intro ?_ ?_|fail))
def c96:Con:=aL 140 true fun args K=>match args with
 | [.agg [.bl p hp,.seq (.int .i64) a]]=>Need (uV a) (K (.tup [S (resI (@sgP p hp (valB B9 a))).1,I (resI (@sgP p hp (valB B9 a))).2]))
 | _=>False
theorem k96:aH Tryz.prog c96:=by
 refine aE rfl (enters_of Tryz.func140 (by kernel_rfl) rfl) ?_
 intro args K h
 simp only[c96] at h
 split at h
 ·rename_i p hp a
  exact ⟨_,h.go,aC (Γ:=[c128,c88]) (by simp[k128,k88]) Tryz.func140 (by simp[Tryz.ntmps140]) rfl (b96 p hp a h.ok)⟩
 ·exact h.elim
def addP (p:Prop) (m:Nat) (q:Prop) (n:Nat):Prop:=(((p↔q)∨n≤m)∧p)∨(¬((p↔q)∨n≤m)∧q)
instance (p:Prop) [Decidable p] (m:Nat) (q:Prop) [Decidable q] (n:Nat):Decidable (addP p m q n):=by unfold addP;infer_instance
def addN (p:Prop) [Decidable p] (m:Nat) (q:Prop) [Decidable q] (n:Nat):Nat:=if p↔q then m+n else if n≤m then m-n else n-m
theorem aDp (p:Prop) [Decidable p] (m:Nat) (q:Prop) [Decidable q] (n:Nat):sgP (addP p m q n) (addN p m q n)=sgP p m+sgP q n:=by
 unfold sgP addP addN
 by_cases hp:p<;>by_cases hq:q<;>by_cases h:n≤m<;>simp[hp,hq,h]<;>omega
theorem aOr {p:Prop} [Decidable p] {m:Nat} {q:Prop} [Decidable q] {n:Nat} (hm:m<B9^100) (hn:n<B9^100):addN p m q n<B9^200:=by
 have h:B9^100+B9^100≤B9^200:=by
  rw[← Nat.two_mul]
  exact Nat.le_trans (Nat.mul_le_mul_right _ (show 2≤B9 by decide)) (by rw[← Nat.pow_succ'];exact Nat.pow_le_pow_right (by decide) (by omega))
 unfold addN
 split
 ·omega
 ·split<;>omega
theorem fV {m k:Nat} (h:m<B9^k):(aD B9 m).length≤k:=by
 rcases Nat.eq_zero_or_pos m with rfl | hm
 ·rw[aX];exact Nat.zero_le _
 ·obtain ⟨h1,_,h3⟩:=dK (B:=B9) (by decide) hm
  have h1:B9^ ((aD B9 m).length-1)≤m:=by exact_mod_cast h1
  have:=(Nat.pow_lt_pow_iff_right (show 1<B9 by decide)).1 (Nat.lt_of_le_of_lt h1 h)
  omega
theorem v9 (m:Nat):valB B9 (aD B9 m)=m:=cU (by decide) m
theorem b97 (p:Prop) (hp:Decidable p) (m:Nat) (q:Prop) (hq:Decidable q) (n:Nat) (hm:m<B9^100) (hn:n<B9^100):
  body Tryz.prog [c107,c129] {} false Tryz.f141 [.agg [.bl p hp,Ls (aD B9 m)],.agg [.bl q hq,Ls (aD B9 n)]] (.agg [.bl (addP p m q n) inferInstance,Ls (aD B9 (addN p m q n))]):=by
 have im:InB B9 (aD B9 m):=aS (by decide) m
 have jn:InB B9 (aD B9 n):=aS (by decide) n
 have lm:=fV hm
 have ln:=fV hn
 have hc:=yN m n
 have vm:=v9 m
 have vn:=v9 n
 (repeat'((conv=>whnf);first|refine Zl ?_|fail))
 (refine Br.mk (fun _=>?_) (fun _=>?_))
 ·rename_i h
  have e1:p↔addP p m q n:=by unfold addP;simp[h]
  have e2:(valB B9 (aD B9 m)+valB B9 (aD B9 n)).toNat=addN p m q n:=by unfold addN;rw[if_pos h];omega
  (repeat'((conv=>whnf);first|(apply Pin.mk;apply Exists.intro)|apply Pinned.mk rfl rfl|fail))
  refine Need.mk ⟨im,jn,by omega,by omega⟩ ?_
  (repeat'((conv=>whnf);first|apply Pinned.mk rfl rfl|fail))
  (conv=>whnf)
  (repeat'(first|exact trivial|refine And.intro ?_ ?_|fail))
  ·exact e1
  ·skip
   exact congrArg (aD B9) e2
 ·rename_i h
  skip
  (conv=>whnf)
  refine Need.mk ⟨im,jn⟩ ?_
  skip
  (refine Br.mk (fun _=>?_) (fun _=>?_))
  ·rename_i hg
   have hle:n≤m:=by omega
   have e1:p↔addP p m q n:=by unfold addP;simp[hle]
   have e2:(valB B9 (aD B9 m)-valB B9 (aD B9 n)).toNat=addN p m q n:=by unfold addN;rw[if_neg h,if_pos hle];omega
   (repeat'((conv=>whnf);first|(apply Pin.mk;apply Exists.intro)|apply Pinned.mk rfl rfl|fail))
   refine Need.mk ⟨im,jn,by omega,by omega,by omega⟩ ?_
   (repeat'((conv=>whnf);first|apply Pinned.mk rfl rfl|fail))
   (conv=>whnf)
   (repeat'(first|exact trivial|refine And.intro ?_ ?_|fail))
   ·exact e1
   ·(conv=>whnf)
    exact congrArg (aD B9) e2
  ·rename_i hg
   have hle:¬n≤m:=by omega
   have e1:q↔addP p m q n:=by unfold addP;simp[hle,h]
   have e2:(valB B9 (aD B9 n)-valB B9 (aD B9 m)).toNat=addN p m q n:=by unfold addN;rw[if_neg h,if_neg hle];omega
   (repeat'((conv=>whnf);first|(apply Pin.mk;apply Exists.intro)|apply Pinned.mk rfl rfl|fail))
   refine Need.mk ⟨jn,im,by omega,by omega,by omega⟩ ?_
   (repeat'((conv=>whnf);first|apply Pinned.mk rfl rfl|fail))
   (conv=>whnf)
   (repeat'(first|exact trivial|refine And.intro ?_ ?_|fail))
   ·exact e1
   ·(conv=>whnf)
    exact congrArg (aD B9) e2
def qS (a:List Int):Prop:=a=aD B9 (valB B9 a).toNat∧(valB B9 a).toNat<B9^100
def c97:Con:=aL 141 false fun args K=>match args with
 | [.agg [.bl p hp,.seq (.int .i64) a],.agg [.bl q hq,.seq (.int .i64) b]]=>Need (qS a∧qS b) (K (.agg [.bl (addP p (valB B9 a).toNat q (valB B9 b).toNat) inferInstance,Ls (aD B9 (@addN p hp (valB B9 a).toNat q hq (valB B9 b).toNat))]))
 | _=>False
theorem k97:aH Tryz.prog c97:=by
 refine aE rfl (enters_of Tryz.func141 (by kernel_rfl) rfl) ?_
 intro args K h
 simp only[c97] at h
 split at h
 ·rename_i p hp a q hq b
  refine ⟨_,h.go,?_⟩
  obtain ⟨⟨ha,hm⟩,hb,hn⟩:=h.ok
  have ht:=aC (Γ:=[c107,c129]) (by simp[k107,k129]) Tryz.func141 (by simp[Tryz.ntmps141]) rfl (b97 p hp (valB B9 a).toNat q hq (valB B9 b).toNat hm hn)
  rw[← ha,← hb] at ht
  exact ht
 ·exact h.elim
theorem aQ6 {l k:Nat} (h:l≤9*k):(10:Nat)^l≤B9^k:=by
 have e9:(10:Nat)^9=B9:=by decide
 rw[← e9,← Nat.pow_mul]
 exact Nat.pow_le_pow_right (by omega) h
theorem iY {s:List UInt8} (h:form s) (hl:(digs s).length≤300):aF (digs s)<B9^34:=
 Nat.lt_of_lt_of_le (cH (digs s) h.2.2) (aQ6 (by omega))
theorem cZ {s:List UInt8}:valI s=sgP (s.headD 0=45) (aF (digs s):Nat):=by
 unfold valI sgP digs
 split
 ·rfl
 ·rfl
theorem bQ {s:List UInt8} (h:form s) (hl:(digs s).length≤300):qS (aD B9 (aF (digs s))):=by
 refine ⟨by rw[v9,Int.toNat_natCast],?_⟩
 rw[v9,Int.toNat_natCast]
 exact Nat.lt_of_lt_of_le (iY h hl) (Nat.pow_le_pow_right (by decide) (by omega))
noncomputable def bE (a b:List UInt8) (r:List UInt8 × Int):List UInt8 × Int:=if chk2 a b≠0 then ([],chk2 a b) else r
theorem fO {a b:List UInt8} (h:¬chk2 a b≠0):chkI a=0∧chkI b=0:=by
 unfold chk2 at h
 split at h
 ·rename_i h1;exact absurd h1 h
 ·rename_i h1;exact ⟨Classical.not_not.1 h1,Classical.not_not.1 h⟩
theorem eF {n:Int} (h:n.natAbs<10^40):resI n=(itoa n,0):=by
 unfold resI lim
 rw[if_neg]
 have:=gT 39 n.natAbs h
 simp;omega
theorem aS6 (a b:List UInt8):sgP (addP (a.headD 0=45) (valB B9 (aD B9 (aF (digs a)))).toNat (b.headD 0=45) (valB B9 (aD B9 (aF (digs b)))).toNat) (valB B9 (aD B9 (addN (a.headD 0=45) (valB B9 (aD B9 (aF (digs a)))).toNat (b.headD 0=45) (valB B9 (aD B9 (aF (digs b)))).toNat)))=valI a+valI b:=by
 simp only[v9,Int.toNat_natCast,aDp,cZ]
theorem b55 (a b:List UInt8):body Tryz.prog [c94,c95,c61,c98,c97,c96] {} true Tryz.f156 [S a,S b] (.tup [S (bE a b (resI (valI a+valI b))).1,I (bE a b (resI (valI a+valI b))).2]):=by
 unfold bE
 skip
 (refine Br.mk (fun _=>?_) (fun _=>?_))
 ·rename_i h
  rw[if_pos h]
  skip
  (conv=>whnf)
  (repeat'(first|exact trivial|rfl|refine And.intro ?_ ?_|fail))
 ·rename_i h
  rw[if_neg h]
  obtain ⟨ha,hb⟩:=fO h
  obtain ⟨fa,la⟩:=bH ha
  obtain ⟨fb,lb⟩:=bH hb
  skip
  refine Need.mk ⟨rfl,fa,fb⟩ ?_
  skip
  (refine Br.mk (fun _=>?_) (fun _=>?_))
  ·rename_i hs
   have h1:=dT fa hs.1
   have h2:=dT fb hs.2
   rw[eF (by omega)]
   (repeat'((conv=>whnf);first|refine Zn ?_|fail))
   (conv=>whnf)
   (repeat'(first|exact trivial|rfl|refine And.intro ?_ ?_|fail))
  ·rename_i hs
   skip
   have hv:=aS6 a b
   refine Need.mk ⟨fa,by omega⟩ ?_
   skip
   refine Need.mk ⟨fb,by omega⟩ ?_
   skip
   refine Need.mk ⟨bQ fa la,bQ fb lb⟩ ?_
   skip
   refine Need.mk (dD (aOr (bQ fa la).2 (bQ fb lb).2)) ?_
   skip
   (conv=>whnf)
   (repeat'(first|exact trivial|rfl|refine And.intro ?_ ?_|fail))
   ·exact congrArg (fun z=>(resI z).1) hv
   ·exact congrArg (fun z=>(resI z).2) hv
theorem aQ7 (p:Prop) [Decidable p] (n:Int):sgP (¬p) n= -sgP p n:=by unfold sgP;by_cases h:p<;>simp[h]
theorem aOs (a b:List UInt8):sgP (addP (a.headD 0=45) (valB B9 (aD B9 (aF (digs a)))).toNat (¬b.headD 0=45) (valB B9 (aD B9 (aF (digs b)))).toNat) (valB B9 (aD B9 (addN (a.headD 0=45) (valB B9 (aD B9 (aF (digs a)))).toNat (¬b.headD 0=45) (valB B9 (aD B9 (aF (digs b)))).toNat)))=valI a-valI b:=by
 simp only[v9,Int.toNat_natCast,aDp,cZ,aQ7]
 omega
theorem b60 (a b:List UInt8):body Tryz.prog [c94,c95,c61,c98,c97,c96] {} true Tryz.f75 [S a,S b] (.tup [S (bE a b (resI (valI a-valI b))).1,I (bE a b (resI (valI a-valI b))).2]):=by
 unfold bE
 skip
 (refine Br.mk (fun _=>?_) (fun _=>?_))
 ·rename_i h
  rw[if_pos h]
  skip
  (conv=>whnf)
  (repeat'(first|exact trivial|rfl|refine And.intro ?_ ?_|fail))
 ·rename_i h
  rw[if_neg h]
  obtain ⟨ha,hb⟩:=fO h
  obtain ⟨fa,la⟩:=bH ha
  obtain ⟨fb,lb⟩:=bH hb
  skip
  refine Need.mk ⟨rfl,fa,fb⟩ ?_
  skip
  (refine Br.mk (fun _=>?_) (fun _=>?_))
  ·rename_i hs
   have h1:=dT fa hs.1
   have h2:=dT fb hs.2
   rw[eF (by omega)]
   (repeat'((conv=>whnf);first|refine Zn ?_|fail))
   (conv=>whnf)
   (repeat'(first|exact trivial|rfl|refine And.intro ?_ ?_|fail))
  ·rename_i hs
   have hv:=aOs a b
   skip
   refine Need.mk ⟨fb,by omega⟩ ?_
   (repeat'((conv=>whnf);first|(apply Pin.mk;apply Exists.intro)|apply Pinned.mk rfl rfl|refine Zl ?_|fail))
   refine Need.mk ⟨fa,by omega⟩ ?_
   (repeat'((conv=>whnf);first|(apply Pin.mk;apply Exists.intro)|apply Pinned.mk rfl rfl|fail))
   refine Need.mk ⟨bQ fa la,bQ fb lb⟩ ?_
   (repeat'((conv=>whnf);first|(apply Pin.mk;apply Exists.intro)|apply Pinned.mk rfl rfl|fail))
   refine Need.mk (dD (aOr (bQ fa la).2 (bQ fb lb).2)) ?_
   (repeat'((conv=>whnf);first|(apply Pin.mk;apply Exists.intro)|apply Pinned.mk rfl rfl|fail))
   (conv=>whnf)
   (repeat'(first|exact trivial|rfl|refine And.intro ?_ ?_|fail))
   ·exact congrArg (fun z=>(resI z).1) hv
   ·exact congrArg (fun z=>(resI z).2) hv
theorem aGf {P:Program} {f:FuncId} {args:List SV} {t:Ty} {ys:List t.T} {e:TypeId} (h2:t.flat=true) (h:OTri P f args (.ref 0 1) t ys e):Tri P true f args (.seq t ys):=by
 intro ok w vs hg hok hr
 refine (h ok w vs hg hok hr).mono ?_
 rintro en w' ⟨v,L',rfl,hb,hL,⟨hlen,hmax,us,hown,hel⟩,hrel⟩
 refine ⟨v,rfl,hb,?_⟩
 cases hrel with
 | ref _ _ _ hn h0 hk hv=>
 have:=hv rfl
 subst this
 refine .seq t ys _ ?_
 rcases aU hown with ⟨e1,e2,e3,e4⟩ | ⟨g,cur,e1,e2,e3,e4,e5,e6,e7⟩
 ·exact ⟨none,0,0,by simp[Core.head,envO,e1,e2,e3],by omega,Nat.le_refl _,Nat.zero_le _,fun h=>absurd h (Nat.lt_irrefl _)⟩
 ·have hg1:w.heap.size≤g:=hL g (by simp[e1])
  have hg2:g<w'.heap.size:=(Array.getElem?_eq_some_iff.1 e3).1
  refine ⟨some ⟨g,0,none⟩,L'.len,L'.cap,by simp[Core.head,envO,e1],hlen,e4,hmax,fun h0=>⟨g,0,rfl,.inr ⟨hg1,hg2⟩,fun i hi=>⟨_,(hel i hi).length,?_,(hel i hi).flat h2⟩⟩⟩
  intro j v hj
  rw[List.getElem?_take] at hj
  split at hj
  ·rw[List.getElem?_drop,← e7,List.getElem?_take] at hj
   split at hj
   ·simp only[env0,World.cell?,e3]
    simpa using hj
   ·cases hj
  ·cases hj
def c99f:Con:=aL 188 true fun args K=>match args with
 | [.seq (.int .i64) a,.seq (.int .i64) b]=>Need (InB B9 a∧InB B9 b∧a.length≤100000∧b.length≤100000) (K (Ls (aD B9 (valB B9 a*valB B9 b).toNat)))
 | _=>False
theorem k99f:aH Tryz.prog c99f:=by
 refine aE rfl (enters_of Tryz.func188 (by kernel_rfl) rfl) ?_
 intro args K h
 simp only[c99f] at h
 split at h
 ·rename_i a b
  exact ⟨_,h.go,aGf rfl (mJ (Γ:=[c132,c131]) (by simp[k132,k131]) Tryz.func188 (by simp[Tryz.ntmps188]) rfl (b99 a b h.ok))⟩
 ·exact h.elim
theorem aJ4 (p q:Prop) [Decidable p] [Decidable q] (m n:Int):sgP (¬(p↔q)) (m*n)=sgP p m*sgP q n:=by
 unfold sgP
 by_cases hp:p<;>by_cases hq:q<;>simp[hp,hq,Int.neg_mul,Int.mul_neg]
theorem aJ5 {s:List UInt8} (h:form s):(valI s).natAbs<10^s.length:=by
 obtain ⟨h1,h2,h3⟩:=h
 have hb:=cH (digs s) h3
 have hp:(10:Nat)^ (digs s).length≤10^s.length:=Nat.pow_le_pow_right (by omega) (kM s).1
 have hv:valI s=aF (digs s)∨valI s= -(aF (digs s):Int):=by
  unfold valI digs
  split
  ·exact .inr rfl
  ·exact .inl rfl
 omega
theorem aA6 {a b:List UInt8} (ha:form a) (hb:form b) (h:a.length+b.length≤18):(valI a*valI b).natAbs<1000000000000000000:=by
 have h1:=aJ5 ha
 have h2:=aJ5 hb
 rw[Int.natAbs_mul]
 have h3:(valI a).natAbs*(valI b).natAbs<10^a.length*10^b.length:=Nat.mul_lt_mul'' h1 h2
 rw[← Nat.pow_add] at h3
 exact Nat.lt_of_lt_of_le h3 (Nat.le_trans (Nat.pow_le_pow_right (by omega) h) (by decide))
theorem aSr (a b:List UInt8) (m:Nat) (hd:Decidable (¬(a.headD 0=45↔b.headD 0=45))) (hm:m=(valB B9 (aD B9 (aF (digs a)))*valB B9 (aD B9 (aF (digs b)))).toNat):sgP (¬(a.headD 0=45↔b.headD 0=45)) (valB B9 (aD B9 m))=valI a*valI b:=by
 subst hm
 have:hd=instDecidableNot:=Subsingleton.elim _ _
 subst this
 rw[v9,v9,v9,← Int.natCast_mul,Int.toNat_natCast,Int.natCast_mul,aJ4,cZ,cZ]
theorem aL5 {a b:List UInt8} (fa:form a) (la:(digs a).length≤300) (fb:form b) (lb:(digs b).length≤300):uV (aD B9 (valB B9 (aD B9 (aF (digs a)))*valB B9 (aD B9 (aF (digs b)))).toNat):=by
 refine dD ?_
 rw[v9,v9,← Int.natCast_mul,Int.toNat_natCast]
 have h3:=Nat.mul_lt_mul'' (iY fa la) (iY fb lb)
 rw[← Nat.pow_add] at h3
 exact Nat.lt_of_lt_of_le h3 (Nat.pow_le_pow_right (by decide) (by omega))
theorem b58 (a b:List UInt8):body Tryz.prog [c94,c95,c61,c98,c99f,c96] {} true Tryz.f136 [S a,S b] (.tup [S (bE a b (resI (valI a*valI b))).1,I (bE a b (resI (valI a*valI b))).2]):=by
 unfold bE
 skip
 (refine Br.mk (fun _=>?_) (fun _=>?_))
 ·rename_i h
  rw[if_pos h]
  skip
  (conv=>whnf)
  (repeat'(first|exact trivial|rfl|refine And.intro ?_ ?_|fail))
 ·rename_i h
  rw[if_neg h]
  obtain ⟨ha,hb⟩:=fO h
  obtain ⟨fa,la⟩:=bH ha
  obtain ⟨fb,lb⟩:=bH hb
  (repeat'((conv=>whnf);first|refine Zg fun _=>?_|refine Zn ?_|fail))
  (refine Br.mk (fun _=>?_) (fun _=>?_))
  ·rename_i hs
   have hm:=aA6 fa fb (by omega)
   skip
   refine Need.mk ⟨rfl,fa,fb⟩ ?_
   refine Br.mk (fun _=>?_) (fun hn=>absurd (show a.length≤18∧b.length≤18 by omega) hn)
   rw[eF (by omega)]
   (repeat'((conv=>whnf);first|refine Zn ?_|fail))
   (conv=>whnf)
   (repeat'(first|exact trivial|rfl|refine And.intro ?_ ?_|fail))
  ·rename_i hs
   have hv:=fun hd=>aSr a b _ hd rfl
   skip
   refine Need.mk ⟨fa,by omega⟩ ?_
   skip
   refine Need.mk ⟨fb,by omega⟩ ?_
   have l1:=fV (iY fa la)
   have l2:=fV (iY fb lb)
   (repeat'((conv=>whnf);first|(apply Pin.mk;apply Exists.intro)|apply Pinned.mk rfl rfl|refine Zl ?_|fail))
   refine Need.mk ⟨aS (by decide) _,aS (by decide) _,by omega,by omega⟩ ?_
   (repeat'((conv=>whnf);first|(apply Pin.mk;apply Exists.intro)|apply Pinned.mk rfl rfl|fail))
   refine Need.mk (aL5 fa la fb lb) ?_
   (repeat'((conv=>whnf);first|(apply Pin.mk;apply Exists.intro)|apply Pinned.mk rfl rfl|fail))
   (conv=>whnf)
   (repeat'(first|exact trivial|rfl|refine And.intro ?_ ?_|fail))
   ·exact congrArg (fun z=>(resI z).1) (hv _)
   ·exact congrArg (fun z=>(resI z).2) (hv _)
def cmpI (x y:Int):Int:=if x<y then -1 else if x=y then 0 else 1
theorem b119 (x:Int):body Tryz.prog [] {} true Tryz.f174 [I x] (.val (.bool false)):=by
 skip
 (conv=>whnf)
 skip
 exact ⟨fun h=>absurd rfl h,fun h=>by cases h⟩
def c119:Con:=aL 174 true fun args K=>match args with | [.val (.int .i64 x)]=>K (.val (.bool false)) | _=>False
theorem k119:aH Tryz.prog c119:=by
 refine aE rfl (enters_of Tryz.func174 (by kernel_rfl) rfl) ?_
 intro args K h
 simp only[c119] at h
 split at h
 ·rename_i x;exact ⟨_,h,aC (Γ:=[]) (by simp) Tryz.func174 (by simp[Tryz.ntmps174]) rfl (b119 x)⟩
 ·exact h.elim
theorem b76 (x y:Int):body Tryz.prog [c119] {} true Tryz.f116 [I x,I y] (I (cmpI x y)):=by
 unfold cmpI
 (repeat'((conv=>whnf);first|refine Zr (fun _=>?_) fun _=>?_|fail))
 all_goals (skip;(conv=>whnf);(repeat'(first|rfl|refine And.intro ?_ ?_|fail)))
 all_goals (repeat' split)
 all_goals omega
def c76:Con:=aL 116 true fun args K=>match args with | [.val (.int .i64 x),.val (.int .i64 y)]=>K (I (cmpI x y)) | _=>False
theorem k76:aH Tryz.prog c76:=by
 refine aE rfl (enters_of Tryz.func116 (by kernel_rfl) rfl) ?_
 intro args K h
 simp only[c76] at h
 split at h
 ·rename_i x y;exact ⟨_,h,aC (Γ:=[c119]) (by simp[k119]) Tryz.func116 (by simp[Tryz.ntmps116]) rfl (b76 x y)⟩
 ·exact h.elim
noncomputable def aJ6 (a b:List UInt8) (r:Int):Int × Int:=if chk2 a b≠0 then (0,chk2 a b) else (r,0)
theorem aSs (p:Prop) [Decidable p] (n:Nat) (x y:Int) (hv:sgP p (valB B9 (aD B9 n))=x-y):cmpI x y=if ((aD B9 n).length:Int)=0 then 0 else if p then -1 else 1:=by
 rw[v9] at hv
 have h0:((aD B9 n).length:Int)=0↔n=0:=by
  rw[← iO (B:=B9) (by decide),← List.length_eq_zero_iff];omega
 unfold sgP at hv
 unfold cmpI
 by_cases hn:n=0
 ·rw[if_pos (h0.2 hn)]
  subst hn
  have:x-y=0:=by rw[← hv];split<;>rfl
  rw[if_neg (by omega),if_pos (by omega)]
 ·rw[if_neg (fun h=>hn (h0.1 h))]
  by_cases hp:p
  ·rw[if_pos hp] at hv ⊢
   rw[if_pos (by omega)]
  ·rw[if_neg hp] at hv ⊢
   rw[if_neg (by omega),if_neg (by omega)]
theorem b77 (a b:List UInt8):body Tryz.prog [c94,c95,c98,c97,c76] {} true Tryz.f118 [S a,S b] (.tup [I (aJ6 a b (cmpI (valI a) (valI b))).1,I (aJ6 a b (cmpI (valI a) (valI b))).2]):=by
 unfold aJ6
 skip
 (refine Br.mk (fun _=>?_) (fun _=>?_))
 ·rename_i h
  rw[if_pos h]
  skip
  (conv=>whnf)
  (repeat'(first|exact trivial|rfl|refine And.intro ?_ ?_|fail))
 ·rename_i h
  rw[if_neg h]
  obtain ⟨ha,hb⟩:=fO h
  obtain ⟨fa,la⟩:=bH ha
  obtain ⟨fb,lb⟩:=bH hb
  skip
  refine Need.mk ⟨rfl,fa,fb⟩ ?_
  skip
  (refine Br.mk (fun _=>?_) (fun _=>?_))
  ·skip
   (conv=>whnf)
   (repeat'(first|exact trivial|rfl|refine And.intro ?_ ?_|fail))
  ·have hv:=aOs a b
   skip
   refine Need.mk ⟨fa,by omega⟩ ?_
   skip
   refine Need.mk ⟨fb,by omega⟩ ?_
   (repeat'((conv=>whnf);first|refine Zl ?_|fail))
   refine Need.mk ⟨bQ fa la,bQ fb lb⟩ ?_
   have hc:=aSs _ _ _ _ hv
   (repeat'((conv=>whnf);first|refine Zg fun _=>?_|refine Zl ?_|fail))
   (refine Br.mk (fun _=>?_) (fun _=>?_))
   ·rename_i h0
    rw[if_pos h0] at hc
    skip
    (conv=>whnf)
    (repeat'(first|exact trivial|rfl|refine And.intro ?_ ?_|fail))
    exact hc.symm
   ·rename_i h0
    rw[if_neg h0] at hc
    skip
    (refine Br.mk (fun _=>?_) (fun _=>?_))
    ·rename_i h1
     rw[if_pos h1] at hc
     skip
     (conv=>whnf)
     (repeat'(first|exact trivial|rfl|refine And.intro ?_ ?_|fail))
     exact hc.symm
    ·rename_i h1
     rw[if_neg h1] at hc
     skip
     (conv=>whnf)
     (repeat'(first|exact trivial|rfl|refine And.intro ?_ ?_|fail))
     exact hc.symm
theorem w135 (a:Option Addr) (n c:Nat) (w:World):Calls Tryz.prog 217 #[.slice a n c] w fun e w'=>e= .returned (.func (.func 239) #[] #[.pointer (some ⟨w.heap.size,0,none⟩)])∧w'=w.alloc (.cells #[.slice a n c] 60):=by
 go_enter Tryz.func217,Tryz.ntmps217
 go_wp2
 go_ret
 exact ⟨rfl,rfl⟩
def aOc:Con:=vU 217 fun args H K=>match args with
 | [.ref nm k]=>(match hget H nm with
  | .vec j t xs e=>Need (j=k) <| K (.clo 239 [] [.lelem [.ref nm k] 0]) H
  | _=>False)
 | _=>False
theorem k135h:aH Tryz.prog aOc:=by
 refine oU (enters_of Tryz.func217 (by kernel_rfl) rfl) ?_
 intro args H K h
 split at h
 case h_2=>exact h.elim
 rename_i nm k
 split at h
 case h_2=>exact h.elim
 rename_i j t xs e ho
 obtain ⟨hjk,hK⟩:=h
 subst hjk
 refine ⟨fun s H'=>s= .clo 239 [] [.lelem [.ref nm j] 0]∧H'=H,fun s H' e=>by rw[e.1,e.2];exact hK,?_⟩
 intro G loc ver w vs hC hI hr
 cases hr with
 | cons _ v1 _ vs1 h1 hr=>
 cases hr
 obtain ⟨hv,_⟩:=jH hI h1 ho
 have hw:=w135 ((loc nm).blk.map fun p=>⟨p.1,p.2,none⟩) (loc nm).len (loc nm).cap w
 rw[show (Value.slice ((loc nm).blk.map fun p=>⟨p.1,p.2,none⟩) (loc nm).len (loc nm).cap)=v1 from hv.symm] at hw
 refine hw.mono ?_
 rintro en w' ⟨rfl,rfl⟩
 obtain ⟨hI',hx⟩:=hI.grow (w':=w.alloc (.cells #[v1] 60)) ((Below.refl _ _).alloc (Nat.le_refl _) _)
 refine ⟨_,rfl,_,_,_,_,⟨rfl,rfl⟩,hI',.clo _ _ _ _ _ .nil (.cons _ _ _ _ ?_ .nil),hx⟩
 refine .lelem _ 0 w.heap.size 0 [v1] (.cons _ _ _ _ (h1.ext hx) .nil) ?_ ?_
 ·refine ⟨.inr (.inr hI.size),by simp,?_⟩
  rintro ⟨k,o,hk,hb⟩
  have:=(hI.objs k _ hk).block (b:=w.heap.size) hb
  exact absurd this (by simp[envOf])
 ·intro i u hi
  cases i with
  | zero=>
   simp at hi;subst hi
   have:=eN w (.cells #[v1] 60)
   show (w.alloc (.cells #[v1] 60)).cell? ⟨w.heap.size,0+0,none⟩=some v1
   unfold World.cell?
   simp only[this]
   rfl
  | succ i=>simp at hi
abbrev itS (n k:Nat):List SV:=[I ((n-1-k:Nat)),.any]
theorem b166s (n:Nat):tZ Tryz.prog [] { asks:=[(0,[])] } Tryz.f239 [.lelem [.sft none] 0] n (itS n):=by
 (repeat'((conv=>whnf);first|refine Zg fun _=>?_|refine Zn ?_|fail))
 refine Ask.mk ⟨{ X:=Nat,pre:=fun i=>i≤n,mod:=fun i _=>[(3,I ((n:Int)-1-i))],heap:=fun i _=>[.yst (some i) n (itS n)],mu:=fun i=>n-i },rfl,?_⟩
 (repeat'((conv=>whnf);first|refine Zn ?_|fail))
 refine ⟨⟨(0:Nat),Nat.zero_le _,by (repeat'(first|exact trivial|rfl|refine And.intro ?_ ?_|omega|fail))⟩,fun (i:Nat) (hi:i≤n)=>?_⟩
 skip
 (refine Br.mk (fun _=>?_) (fun _=>?_))
 ·have hlt:i<n:=by omega
  have e:((n:Int)-1-i)=((n-1-i:Nat):Int):=by omega
  (repeat'((conv=>whnf);first|refine Zn ?_|fail))
  refine cJ (n-1-i) (by omega) ?_
  (repeat'((conv=>whnf);first|refine Zn ?_|fail))
  refine Need.mk (by (repeat'(first|exact trivial|rfl|refine And.intro ?_ ?_|fail));exact e) ?_
  refine Two.mk ?_ ?_
  ·(repeat'((conv=>whnf);first|refine Zn ?_|fail))
   refine ⟨(i+1:Nat),by show n-(i+1)<n-i;omega,hlt,?_⟩
   (repeat'(first|exact trivial|rfl|refine And.intro ?_ ?_|omega|fail))
  ·(conv=>whnf)
   trivial
 ·(conv=>whnf)
  omega
def aJ7:Con:=aL 239 false fun args K=>match args with | [.lelem [.sft none] 0]=>∃n,K (.itr n (itS n)) | _=>False
theorem k166s:aH Tryz.prog aJ7:=by
 refine aE rfl (enters_of Tryz.func239 (by kernel_rfl) rfl) ?_
 intro args K h
 simp only[aJ7] at h
 split at h
 ·obtain ⟨n,hK⟩:=h
  exact ⟨_,hK,gR (Γ:=[]) (by simp) Tryz.func239 (by simp[Tryz.ntmps239]) (b166s n)⟩
 ·exact h.elim
end RB
end
section
set_option linter.unusedVariables false
set_option linter.unusedVariables false
namespace IB
theorem aL1 {B:Nat} (hB:2≤B) {w:List Int} (h:InB B w) {j k:Nat} (hk:2≤k) (hl:j+k<w.length) (hz:∀i,j+(k+1)≤i→w.getD i 0=0):
  valB B (w.drop j)<((w.getD (j+k) 0*B+w.getD (j+k-1) 0)*B+w.getD (j+k-2) 0+1)*(B:Int)^ (k-2):=by
 have e0:=eT (B:=B) (w.drop j) (k-2) (by rw[List.length_drop];omega)
 rw[List.drop_drop,show j+(k-2)=j+k-2 by omega] at e0
 have b0:=fG hB (jP (fX h j) (k-2)) (n:=k-2) (by rw[List.length_take];omega)
 rw[bI w (j+k-2) (by omega),show j+k-2+1=j+k-1 by omega,bI w (j+k-1) (by omega),show j+k-1+1=j+k by omega,bI w (j+k) hl] at e0
 have ez:valB B (w.drop (j+k+1))=0:=by
  have:w.drop (j+k+1)=List.replicate (w.length-(j+k+1)) 0:=by
   refine iS (by simp) fun i hi=>?_
   have:=hz (j+k+1+i) (by omega)
   rw[List.length_drop] at hi
   have hi':j+k+1+i<w.length:=by omega
   simpa [List.getD_eq_getElem?_getD,List.getElem?_drop,List.getElem?_replicate,hi,hi'] using this
  rw[this,lP]
 simp only[valB,ez,Int.mul_zero,Int.add_zero] at e0
 have hP:=dL hB (k-2)
 generalize (B:Int)^ (k-2)=P at*
 generalize w.getD (j+k) 0=x0 at*
 generalize w.getD (j+k-1) 0=x1 at*
 generalize w.getD (j+k-2) 0=x2 at*
 rw[e0,show ((x0*B+x1)*B+x2+1)*P=P*(x2+B*(x1+B*x0))+P by
  rw[Int.add_mul _ 1,Int.one_mul,Int.mul_comm _ P,Int.add_comm _ x2,Int.mul_comm _ (B:Int),Int.add_comm _ x1,Int.mul_comm x0]]
 omega
theorem aQr {B:Nat} (hB:2≤B) {v:List Int} (h:InB B v) (hk:2≤v.length):
  (v.getD (v.length-1) 0*B+v.getD (v.length-2) 0)*(B:Int)^ (v.length-2)≤valB B v:=by
 have e0:=eT (B:=B) v (v.length-2) (by omega)
 have b0:=bD (jP h (v.length-2))
 rw[bI v (v.length-2) (by omega),show v.length-2+1=v.length-1 by omega,bI v (v.length-1) (by omega),List.drop_eq_nil_of_le (by omega)] at e0
 simp only[valB,Int.mul_zero,Int.add_zero] at e0
 rw[Int.mul_comm,Int.add_comm (v.getD (v.length-1) 0*(B:Int)),Int.mul_comm (v.getD (v.length-1) 0)]
 omega
theorem aH7 {B:Nat} (hB:2≤B) {u v:List Int} (hu:InB B u) (hv:InB B v) (hV:0<valB B v) {m:Nat} (hm:m+v.length=u.length) (h0:valB B (u.drop m)<valB B v) (hk:2≤v.length) (hv1:0<v.getD (v.length-1) 0) (s:Nat) (hs:s<m) (f:Nat):
  (∀i,m-1-s+(v.length+1)≤i→(cE B u v m s).1.getD i 0=0)∧
  0≤valB B ((cE B u v m s).1.drop (m-1-s))/valB B v∧valB B ((cE B u v m s).1.drop (m-1-s))/valB B v<B∧
  (∀top,top=(cE B u v m s).1.getD (m-1-s+v.length) 0*B+(cE B u v m s).1.getD (m-1-s+v.length-1) 0→
   valB B ((cE B u v m s).1.drop (m-1-s))/valB B v≤estF B (v.getD (v.length-1) 0) (v.getD (v.length-2) 0) ((cE B u v m s).1.getD (m-1-s+v.length-2) 0) f (top/v.getD (v.length-1) 0) (top%v.getD (v.length-1) 0)∧
   estF B (v.getD (v.length-1) 0) (v.getD (v.length-2) 0) ((cE B u v m s).1.getD (m-1-s+v.length-2) 0) f (top/v.getD (v.length-1) 0) (top%v.getD (v.length-1) 0)≤top/v.getD (v.length-1) 0):=by
 obtain ⟨h1,h2,h3,h4,h5,h6⟩:=mU hB hu hv hV hm h0 s (by omega)
 obtain ⟨j,hj⟩:∃j,m-1-s=j:=⟨_,rfl⟩
 have e1:m-s=j+1:=by omega
 rw[hj]
 rw[e1] at h5
 generalize (cE B u v m s).1=w at h1 h2 h5 ⊢
 have hw:valB B (w.drop j)=w.getD j 0+(B:Int)*valB B (w.drop (j+1)):=by rw[bI w j (by omega)];rfl
 have g1:=h2.get (show j<w.length by omega)
 have hVB:=kW hv
 have hz:∀i,j+(v.length+1)≤i→w.getD i 0=0:=fun i hi=>by
  have:=aA4 hB (fX h2 (j+1)) (n:=v.length) (by omega) (i-(j+1)) (by omega)
  rw[jK] at this
  rwa [show j+1+(i-(j+1))=i by omega] at this
 have hW0:=bD (fX h2 j)
 have hWB:valB B (w.drop j)<(B:Int)*valB B v:=by
  have:(B:Int)*(valB B (w.drop (j+1))+1)≤B*valB B v:=Int.mul_le_mul_of_nonneg_left (by omega) (by omega)
  rw[Int.mul_add,Int.mul_one] at this
  omega
 have t3:=aL1 hB h2 hk (by omega) hz
 have t2:=aQr hB hv hk
 obtain ⟨W,hW⟩:∃W,valB B (w.drop j)=W:=⟨_,rfl⟩
 rw[hW] at hWB hW0 t3 ⊢
 have hQ0:0≤W/valB B v:=Int.ediv_nonneg (by omega) (by omega)
 have hQV:W/valB B v*valB B v≤W:=Int.ediv_mul_le _ (by omega)
 have hQB:W/valB B v<B:=Int.ediv_lt_of_lt_mul hV hWB
 refine ⟨hz,hQ0,hQB,?_⟩
 rintro top rfl
 have hP:=dL hB (v.length-2)
 have x2:=h2.get (show j+v.length-2<w.length by omega)
 have hB':(0:Int)<B:=by omega
 have hPB:(0:Int)<B*(B:Int)^ (v.length-2):=Int.mul_pos hB' hP
 have w2:=hv.get (show v.length-2<v.length by omega)
 refine aJ0 hP (by omega) t2 (by omega) t3 hQB hQ0 hQV f _ _ ?_ ?_
 ·rw[Int.mul_comm (_/ _) _];exact (Int.mul_ediv_add_emod _ _).symm
 ·refine aLz (B:=(B:Int)) (P:=B*(B:Int)^ (v.length-2)) hPB hv1 ?_ ?_ hQ0 hQV
  ·refine Int.le_trans ?_ t2
   rw[← Int.mul_assoc]
   exact Int.mul_le_mul_of_nonneg_right (by omega) (Int.le_of_lt hP)
  ·refine Int.lt_of_lt_of_le t3 ?_
   rw[← Int.mul_assoc]
   refine Int.mul_le_mul_of_nonneg_right ?_ (Int.le_of_lt hP)
   rw[Int.add_mul _ 1,Int.one_mul];omega
theorem aH8 {B:Nat} (hB:2≤B) {u v:List Int} (hu:InB B u) (hv:InB B v) (hk:1≤v.length) (hv1:0<v.getD (v.length-1) 0) {m:Nat} (hm:m+v.length=u.length) (hz:u.getD (u.length-1) 0=0):valB B (u.drop m)<valB B v∧0<valB B v:=by
 have e0:=eT (B:=B) v (v.length-1) (by omega)
 have b0:=bD (jP hv (v.length-1))
 rw[bI v (v.length-1) (by omega),List.drop_eq_nil_of_le (by omega)] at e0
 simp only[valB,Int.mul_zero,Int.add_zero] at e0
 have hP:=dL hB (v.length-1)
 have h1:(B:Int)^ (v.length-1)*1≤(B:Int)^ (v.length-1)*v.getD (v.length-1) 0:=Int.mul_le_mul_of_nonneg_left (by omega) (by omega)
 have h2:valB B (u.drop m)<(B:Int)^ (v.length-1):=aJz hB (fX hu m) fun i hi=>by
  rw[jK]
  by_cases hi2:m+i<u.length
  ·rw[show m+i=u.length-1 by omega];exact hz
  ·exact eK _ _ (by omega)
 omega
end IB
end
section
set_option linter.unusedVariables false
set_option linter.unusedVariables false
namespace IB
theorem aA5 {B:Nat} (hB:2≤B) {n k:Nat} (hk:1≤k) (h1:B^ (k-1)≤n) (h2:n<B^k):
  (aD B n).length=k∧(aD B n).getD (k-1) 0*(B:Int)^ (k-1)≤n∧(n:Int)<((aD B n).getD (k-1) 0+1)*(B:Int)^ (k-1):=by
 have hp:0<B^ (k-1):=Nat.pow_pos (by omega)
 obtain ⟨g1,g2,g3⟩:=dK hB (n:=n) (by omega)
 have g1:B^ ((aD B n).length-1)≤n:=by exact_mod_cast g1
 have g2:n<B^ (aD B n).length:=by exact_mod_cast g2
 have a1:=(Nat.pow_lt_pow_iff_right (show 1<B by omega)).1 (Nat.lt_of_le_of_lt g1 h2)
 have a2:=(Nat.pow_lt_pow_iff_right (show 1<B by omega)).1 (Nat.lt_of_le_of_lt h1 g2)
 have hl:(aD B n).length=k:=by omega
 have hi:=aS hB n
 have e0:=eT (B:=B) (aD B n) (k-1) (by omega)
 have b0:=bD (jP hi (k-1))
 have b1:=fG hB (jP hi (k-1)) (n:=k-1) (by rw[List.length_take];omega)
 rw[bI _ (k-1) (by omega),List.drop_eq_nil_of_le (by omega),cU hB] at e0
 simp only[valB,Int.mul_zero,Int.add_zero] at e0
 refine ⟨hl,?_,?_⟩
 ·rw[Int.mul_comm];omega
 ·rw[Int.add_mul,Int.one_mul,Int.mul_comm];omega
theorem scale {B:Nat} (hB:2≤B) {n:Nat} (hn:0<n) {f:Nat} (hf:(f:Int)=(B:Int)/((aD B n).getD ((aD B n).length-1) 0+1)):
  0<f∧f<B∧(aD B (n*f)).length=(aD B n).length∧(B:Int)≤4*(aD B (n*f)).getD ((aD B (n*f)).length-1) 0:=by
 obtain ⟨g1,g2,g3⟩:=dK hB hn
 have g1:B^ ((aD B n).length-1)≤n:=by exact_mod_cast g1
 have g2:n<B^ (aD B n).length:=by exact_mod_cast g2
 obtain ⟨k,hk⟩:∃k,(aD B n).length=k:=⟨_,rfl⟩
 rw[hk] at g1 g2 g3 hf ⊢
 obtain ⟨_,t1,t2⟩:=aA5 hB g3 g1 g2
 have ht:=(aS hB n).get (show k-1<(aD B n).length by omega)
 have ht1:(aD B n).getD (k-1) 0≠0:=by
  have hne:aD B n≠ []:=by rw[← List.length_pos_iff];omega
  have:=mS hB n hne
  rw[List.getLast_eq_getElem] at this
  rw[List.getD_eq_getElem?_getD,List.getElem?_eq_getElem (by omega),Option.getD_some]
  simpa [hk] using this
 obtain ⟨t,ht'⟩:∃t:Nat,(aD B n).getD (k-1) 0=t:=⟨_,(Int.eq_ofNat_of_zero_le ht.1).choose_spec⟩
 rw[ht'] at hf t1 t2 ht ht1
 obtain ⟨f1,f2,f3⟩:=aH6 (B:=(B:Int)) (t:=(t:Int)) (f:=(f:Int)) (by omega) ht.2 hf
 have f2:f*(t+1)≤B:=by exact_mod_cast f2
 have f3:B≤4*(f*t):=by exact_mod_cast f3
 have t1:t*B^ (k-1)≤n:=by exact_mod_cast t1
 have t2:n<(t+1)*B^ (k-1):=by exact_mod_cast t2
 have hf0:0<f:=by omega
 have u1:f*t*B^ (k-1)≤n*f:=by
  rw[Nat.mul_assoc,Nat.mul_comm n f];exact Nat.mul_le_mul_left f t1
 have u2:n*f<f*(t+1)*B^ (k-1):=by
  rw[Nat.mul_assoc,Nat.mul_comm n f];exact Nat.mul_lt_mul_of_pos_left t2 hf0
 have u3:f*(t+1)*B^ (k-1)≤B^k:=by
  rw[show B^k=B*B^ (k-1) by rw[← Nat.pow_succ'];congr 1;omega]
  exact Nat.mul_le_mul_right _ f2
 have hft:1≤f*t:=Nat.mul_pos hf0 (by omega)
 have u4:B^ (k-1)≤n*f:=Nat.le_trans (by rw[← Nat.one_mul (B^ (k-1)),← Nat.mul_assoc,Nat.mul_one];exact Nat.mul_le_mul_right _ hft) u1
 obtain ⟨v1,v2,v3⟩:=aA5 hB g3 u4 (Nat.lt_of_lt_of_le u2 u3)
 have hfB:f<B:=by
  have:f*2≤f*(t+1):=Nat.mul_le_mul_left f (by omega)
  omega
 refine ⟨hf0,hfB,v1,?_⟩
 rw[v1]
 have hp:(0:Int)<(B:Int)^ (k-1):=dL hB (k-1)
 have u1':(f:Int)*t*(B:Int)^ (k-1)≤((n*f:Nat):Int):=by exact_mod_cast u1
 have:(f:Int)*t<(aD B (n*f)).getD (k-1) 0+1:=Int.lt_of_mul_lt_mul_right (Int.lt_of_le_of_lt u1' v3) (Int.le_of_lt hp)
 have f3':(B:Int)≤4*((f:Int)*t):=by exact_mod_cast f3
 omega
theorem aL2 {B:Nat} (hB:2≤B) (n k:Nat):InB B (aD B n++List.replicate k 0)∧valB B (aD B n++List.replicate k 0)=n∧(0<k→(aD B n++List.replicate k 0).getD ((aD B n++List.replicate k 0).length-1) 0=0):=by
 refine ⟨InB.append.2 ⟨aS hB n,fun x hx=>?_⟩,?_,fun hk=>?_⟩
 ·rw[(List.mem_replicate.1 hx).2];omega
 ·rw[gD,lP,Int.mul_zero,Int.add_zero,cU hB]
 ·rw[List.getD_eq_getElem?_getD,List.getElem?_append_right (by simp;omega)]
  simp[List.getElem?_replicate]
  split<;>rfl
theorem aL3 {B:Nat} (hB:2≤B) {m f:Nat} (hf:f<B):(aD B (m*f)).length≤(aD B m).length+1:=by
 rcases Nat.eq_zero_or_pos m with rfl | hm
 ·rw[Nat.zero_mul,aX];exact Nat.zero_le _
 ·rcases Nat.eq_zero_or_pos f with rfl | hf0
  ·rw[Nat.mul_zero,aX];exact Nat.zero_le _
  ·obtain ⟨g1,g2,g3⟩:=dK hB hm
   have g2:m<B^ (aD B m).length:=by exact_mod_cast g2
   obtain ⟨q1,_,_⟩:=dK hB (n:=m*f) (Nat.mul_pos hm hf0)
   have q1:B^ ((aD B (m*f)).length-1)≤m*f:=by exact_mod_cast q1
   have:m*f<B^ ((aD B m).length+1):=by
    rw[Nat.pow_succ];exact Nat.mul_lt_mul'' g2 hf
   have:=(Nat.pow_lt_pow_iff_right (show 1<B by omega)).1 (Nat.lt_of_le_of_lt q1 this)
   omega
end IB
end
section
open Go Go.Proofs Go.Eng Go.Shelf IB Go.Lib Go.RowKit
namespace RB
set_option maxRecDepth 10000
set_option linter.unusedVariables false
set_option linter.unusedSimpArgs false
theorem aOd {n:Nat} (h:(aD B9 n).length=1):(aD B9 n).getD 0 0=n∧n<1000000000:=by
 have hv:=v9 n
 have hg:=get9 (show InB B9 (aD B9 n) from aS (by decide) n) 0
 cases hl:aD B9 n with
 | nil=>rw[hl] at h;simp at h
 | cons x r=>
  have hr:r= []:=by rw[hl] at h;simpa using h
  subst hr
  rw[hl] at hv hg
  simp only[valB,Int.mul_zero,Int.add_zero] at hv
  refine ⟨hv,?_⟩
  have hg:0≤x∧x<1000000000:=hg
  omega
theorem aOe (l:List Int) (k:Nat):l++List.replicate k 0++ [0]=l++List.replicate (k+1) 0:=by
 rw[List.append_assoc,← List.replicate_succ']
set_option maxHeartbeats 4000000 in
theorem b106 (m n:Nat) (hm:m<B9^100) (hn:0<n∧n<B9^100):
  body Tryz.prog [c129,c134,c99,aOc,aJ7,c136,c137,c138,c131] { asks:=[(0,[3]),(2,[3]),(4,[3])] } false Tryz.f181 [Ls (aD B9 m),Ls (aD B9 n)] (.tup [Ls (aD B9 (m/n)),Ls (aD B9 (m%n))]):=by
 obtain ⟨hn0,hn⟩:=hn
 have im:InB B9 (aD B9 m):=aS (by decide) m
 have jn:InB B9 (aD B9 n):=aS (by decide) n
 have lm:=fV hm
 have ln:=fV hn
 have hc:=yN m n
 have vm:=v9 m
 have vn:=v9 n
 skip
 refine Need.mk ⟨im,jn⟩ ?_
 skip
 (refine Br.mk (fun _=>?_) (fun _=>?_))
 ·rename_i h
  have hlt:m<n:=by omega
  rw[Nat.div_eq_of_lt hlt,Nat.mod_eq_of_lt hlt,aX]
  skip
  (conv=>whnf)
  (repeat'(first|exact trivial|rfl|refine And.intro ?_ ?_|fail))
 ·rename_i h
  have hle:n≤m:=by omega
  (repeat'((conv=>whnf);first|refine Zg fun _=>?_|fail))
  (refine Br.mk (fun _=>?_) (fun _=>?_))
  ·rename_i h1
   obtain ⟨hx,hxlt⟩:=aOd (n:=n) (by omega)
   (repeat'((conv=>whnf);first|refine Zg fun _=>?_|refine Zn ?_|refine Z0 ?_|fail))
   refine Need.mk ⟨im,by omega,by omega⟩ ?_
   skip
   (conv=>whnf)
   have e1:(valB B9 (aD B9 m)/(aD B9 n).getD 0 0).toNat=m/n:=by rw[vm,hx,← Int.natCast_ediv,Int.toNat_natCast]
   have e2:(valB B9 (aD B9 m)% (aD B9 n).getD 0 0).toNat=m%n:=by rw[vm,hx,← Int.natCast_emod,Int.toNat_natCast]
   (repeat'(first|exact trivial|refine And.intro ?_ ?_|fail))
   ·exact congrArg (aD B9) e1
   ·exact congrArg (aD B9) e2
  ·rename_i h1
   have hk:2≤(aD B9 n).length:=by
    have:=(dK (B:=B9) (by decide) hn0).2.2
    omega
   have ht:=get9 jn ((aD B9 n).length-1)
   obtain ⟨f,hf⟩:∃f:Nat,(f:Int)=1000000000/((aD B9 n).getD ((aD B9 n).length-1) 0+1):=⟨_,(Int.eq_ofNat_of_zero_le (Int.ediv_nonneg (by omega) (by omega))).choose_spec.symm⟩
   obtain ⟨f0,fB,sl,st⟩:=scale (B:=B9) (by decide) hn0 hf
   have st:(1000000000:Int)≤4*(aD B9 (n*f)).getD ((aD B9 (n*f)).length-1) 0:=st
   have fB:f<1000000000:=fB
   (repeat'((conv=>whnf);first|refine Zg fun _=>?_|refine Zn ?_|fail))
   refine cJ ((aD B9 n).length-1) (by omega) ?_
   (repeat'((conv=>whnf);first|refine Zg fun _=>?_|refine Za ?_|refine Zn ?_|refine Zl ?_|fail))
   rw[← hf]
   have if1:InB B9 [(f:Int)]:=fun x hx=>by
    have:x=f:=by simpa using hx
    subst this
    exact ⟨by omega,by show (f:Int)<1000000000;omega⟩
   have ef:∀k:Nat,(valB B9 (aD B9 k)*valB B9 [(f:Int)]).toNat=k*f:=fun k=>by
    rw[v9,show valB B9 [(f:Int)]=f by simp[valB],← Int.natCast_mul,Int.toNat_natCast]
   skip
   refine Need.mk ⟨im,if1,by omega,by show 1≤100000;omega⟩ ?_
   rw[ef]
   have sm:=aL3 (B:=B9) (by decide) (m:=m) (show f<B9 from fB)
   (repeat'((conv=>whnf);first|refine Zn ?_|refine Zl ?_|fail))
   refine Need.mk ⟨jn,if1,by omega,by show 1≤100000;omega⟩ ?_
   rw[ef]
   skip
   have ka:(aD B9 n).length≤(aD B9 m).length:=Classical.byContradiction fun hx=>by
    have:=gK (B:=B9) (by decide) (m:=m) (n:=n) (by omega)
    omega
   refine Ask.mk ⟨{ X:=Nat,pre:=fun i=>(aD B9 (m*f)).length+i≤(aD B9 m).length+1,mod:=fun _ _=>[],heap:=fun i H=>[V [],.cells [.ref 0 1] 60,V [],V (aD B9 (m*f)++List.replicate (i+1) 0),V (aD B9 (n*f)),V [],.cells [.ref 3 1] 60,V [],.cells [.ref 4 1] 60],mu:=fun i=>(aD B9 m).length+1-(aD B9 (m*f)).length-i,objs:=[3] },rfl,?_⟩
   (repeat'((conv=>whnf);first|refine Zn ?_|fail))
   refine ⟨⟨(0:Nat),sm,?_⟩,fun (i:Nat) hi=>?_⟩
   ·(repeat'(first|exact trivial|rfl|exact Nat.one_pos|refine And.intro ?_ ?_|fail))
   ·have hi:(aD B9 (m*f)).length+i≤(aD B9 m).length+1:=hi
    have hul:(aD B9 (m*f)++List.replicate (i+1) (0:Int)).length=(aD B9 (m*f)).length+(i+1):=by simp
    (repeat'((conv=>whnf);first|refine Zg fun _=>?_|refine Zn ?_|fail))
    (refine Br.mk (fun _=>?_) (fun _=>?_))
    ·rename_i hlt
     (repeat'((conv=>whnf);first|refine Zn ?_|refine Zl ?_|fail))
     refine ⟨(i+1:Nat),by show (aD B9 m).length+1-(aD B9 (m*f)).length-(i+1)<(aD B9 m).length+1-(aD B9 (m*f)).length-i;omega,by show _+(i+1)≤ _;omega,?_⟩
     (repeat'(first|exact trivial|rfl|exact Nat.one_pos|refine And.intro ?_ ?_|fail))
     exact aOe _ _
    ·rename_i hge
     have hge:(aD B9 m).length+1≤(aD B9 (m*f)).length+(i+1):=by omega
     obtain ⟨iu,vu,zu⟩:=aL2 (B:=B9) (by decide) (m*f) (i+1)
     have zu:=zu (by omega)
     have jv:InB B9 (aD B9 (n*f)):=aS (by decide) _
     obtain ⟨u,hu⟩:∃u,aD B9 (m*f)++List.replicate (i+1) (0:Int)=u:=⟨_,rfl⟩
     rw[hu] at iu vu zu hul ⊢
     obtain ⟨v,hv⟩:∃v,aD B9 (n*f)=v:=⟨_,rfl⟩
     have vv:valB B9 v=((n*f:Nat):Int):=by rw[← hv];exact v9 _
     rw[hv] at st sl jv ⊢
     obtain ⟨M,hM⟩:∃M,u.length-v.length=M:=⟨_,rfl⟩
     have hMu:M+v.length=u.length:=by omega
     obtain ⟨s1,s2⟩:=aH8 (B:=B9) (by decide) iu jv (by omega) (by omega) hMu zu
     (repeat'((conv=>whnf);first|refine Zg fun _=>?_|refine Zn ?_|refine Z8 ?_|fail))
     rw[show ((u.length:Int)-v.length)=(M:Int) by omega]
     skip
     have v1p:250000000≤v.getD (v.length-1) 0:=by omega
     have hspec:=mU (B:=B9) (by decide) iu jv s2 hMu s1
     refine Ask.mk ⟨{ X:=Nat,pre:=fun s=>s≤M,mod:=fun _ _=>[],heap:=fun s H=>[V [],.cells [.ref 9 1] 60,V [],V (cE B9 u v M s).1,V v,V [],.cells [.ref 3 1] 60,V [],.cells [.ref 4 1] 60,V (cE B9 u v M s).2],mu:=fun s=>s,objs:=[3] },rfl,?_⟩
     refine ⟨M,?_⟩
     (conv=>whnf)
     refine Need.mk ⟨⟨rfl,rfl,by simp⟩,fun s hs=>⟨rfl,rfl,(hspec s hs).2.2.1⟩⟩ ?_
     (repeat'((conv=>whnf);first|refine Zn ?_|fail))
     refine ⟨⟨(0:Nat),rfl,Nat.zero_le _,?_⟩,fun (s:Nat) hs (hlt:s<M)=>?_,fun (s:Nat) hs (he:s=M)=>?_⟩
     ·(repeat'(first|exact trivial|rfl|exact Nat.one_pos|refine And.intro ?_ ?_|fail))
     ·obtain ⟨w1,w2,w3,w4,w5,w6⟩:=hspec s (by omega)
      obtain ⟨r1,r2,r3,r4⟩:=aH7 (B:=B9) (by decide) iu jv s2 hMu s1 (by omega) (by omega) s hlt 8
      have hst1:(cE B9 u v M (s+1)).1=(bM B9 (cE B9 u v M s).1 v (M-1-s) (valB B9 ((cE B9 u v M s).1.drop (M-1-s))/valB B9 v) (v.length+1)).1:=rfl
      have hst2:(cE B9 u v M (s+1)).2=(cE B9 u v M s).2.set (M-1-s) (valB B9 ((cE B9 u v M s).1.drop (M-1-s))/valB B9 v):=rfl
      obtain ⟨w,hw⟩:∃w,(cE B9 u v M s).1=w:=⟨_,rfl⟩
      obtain ⟨p,hp⟩:∃p,(cE B9 u v M s).2=p:=⟨_,rfl⟩
      obtain ⟨j,hj⟩:∃j,M-1-s=j:=⟨_,rfl⟩
      obtain ⟨Q,hQ⟩:∃Q,valB B9 (w.drop j)/valB B9 v=Q:=⟨_,rfl⟩
      rw[hw] at w1 w2 w5 w6 r1 r2 r3 r4 hst1 hst2
      rw[hp] at w3 w4 w6 hst2
      rw[hj] at r1 r2 r3 r4 hst1 hst2
      rw[hQ] at r2 r3 r4 hst1 hst2
      show hnfL (itS M s) _
      (repeat'((conv=>whnf);first|refine Zg fun _=>?_|fail))
      (conv=>whnf)
      rw[hw,hj]
      refine Need.mk ⟨w2,jv,by omega,by omega,v1p,by omega,by omega⟩ ?_
      rw[Int.toNat_natCast]
      have g0:=get9 w2 (j+v.length)
      have g1:=get9 w2 (j+v.length-1)
      have hT:0≤top2 w v j∧top2 w v j<1000000000000000000:=by unfold top2;omega
      have hq4:top2 w v j/v.getD (v.length-1) 0≤4000000000:=by
       refine Int.le_trans (Int.ediv_le_ediv (by omega) (show top2 w v j≤4000000000*v.getD (v.length-1) 0 by omega)) ?_
       rw[Int.mul_ediv_cancel _ (by omega)]
       exact Int.le_refl _
      have r5:Q≤estL w v j∧estL w v j≤4000000000:=⟨(r4 (top2 w v j) rfl).1,Int.le_trans (r4 (top2 w v j) rfl).2 hq4⟩
      obtain ⟨q0,hq0⟩:∃q0,estL w v j=q0:=⟨_,rfl⟩
      rw[hq0] at r5
      skip
      refine Ask.mk ⟨{ X:=Int,pre:=fun q=>Q≤q∧q≤4000000000,mod:=fun q _=>[(10,I q)],heap:=fun q H=>[V [],.cells [.ref 9 1] 60,V [],V w,V v,V [],.cells [.ref 3 1] 60,V [],.cells [.ref 4 1] 60,V p,.gone],mu:=fun q=>(q-Q).toNat,objs:=[3] },rfl,?_⟩
      (repeat'((conv=>whnf);first|refine Zn ?_|fail))
      refine ⟨⟨q0,r5,?_⟩,fun (q:Int) hq=>?_⟩
      ·(repeat'(first|exact trivial|rfl|exact Nat.one_pos|refine And.intro ?_ ?_|fail))
       ·exact hq0
       ·exact hp
      ·obtain ⟨q1,q2⟩:=hq
       have q1:Q≤q:=q1
       obtain ⟨k1,k2,k3,_⟩:=iT (B:=B9) (by decide) w2 jv (j:=j) (q:=q) (by omega) (v.length+1) (by omega)
       obtain ⟨k4,_⟩:=aGc (B:=B9) (by decide) w2 jv (j:=j) (q:=q) (by omega) (by omega) r1
       have krest:=aH5 (B:=B9) (by decide) w2 jv (j:=j) (q:=q) (by omega) (k:=v.length+1) (by omega)
       have kQ:q*valB B9 v≤valB B9 (w.drop j)↔q≤Q:=by rw[← hQ,Int.le_ediv_iff_mul_le s2]
       skip
       refine Need.mk ⟨w2,jv,by omega,by omega,by omega,by omega⟩ ?_
       rw[Int.toNat_natCast]
       skip
       (refine Br.mk (fun _=>?_) (fun _=>?_))
       ·rename_i hc
        have hgt:Q<q:=by
         refine Classical.byContradiction fun hx=>?_
         have:=k4.2 (kQ.2 (by omega))
         omega
        skip
        refine Need.mk ⟨k2,jv,by omega,by omega,by omega,by omega⟩ ?_
        (repeat'((conv=>whnf);first|refine Zn ?_|fail))
        refine ⟨q-1,?_,⟨by show Q≤q-1;omega,by show q-1≤4000000000;omega⟩,?_⟩
        ·show (q-1-Q).toNat<(q-Q).toNat
         omega
        ·(repeat'(first|exact trivial|rfl|exact Nat.one_pos|refine And.intro ?_ ?_|fail))
         exact krest
       ·rename_i hc
        have hqQ:q=Q:=by
         have:=kQ.1 (k4.1 (by omega))
         omega
        subst hqQ
        (repeat'((conv=>whnf);first|refine Zn ?_|refine Zj ?_|fail))
        refine ⟨(s+1:Nat),rfl,hlt,?_⟩
        (repeat'(first|exact trivial|rfl|exact Nat.one_pos|refine And.intro ?_ ?_|fail))
        ·exact hst1.symm
        ·exact hst2.symm
     ·subst he
      obtain ⟨a1,a2⟩:=aL0 (B:=B9) (by decide) iu jv s2 hMu s1
      have e1:(valB B9 u/valB B9 v).toNat=m/n:=by
       rw[vu,vv,← Int.natCast_ediv,Int.toNat_natCast,Nat.mul_div_mul_right _ _ f0]
      have e2:(valB B9 u%valB B9 v).toNat=m%n*f:=by
       rw[vu,vv,← Int.natCast_emod,Int.toNat_natCast,Nat.mul_mod_mul_right]
      rw[e1] at a1
      rw[e2] at a2
      have hr:m%n*f<B9^101:=by
       rw[Nat.pow_succ]
       exact Nat.mul_lt_mul'' (Nat.lt_trans (Nat.mod_lt m hn0) hn) fB
      have lr:=fV hr
      skip
      (conv=>whnf)
      rw[a2]
      refine Need.mk ⟨aS (by decide) _,by omega,by omega⟩ ?_
      have e3:(valB B9 (aD B9 (m%n*f))/(f:Int)).toNat=m%n:=by
       rw[v9,← Int.natCast_ediv,Int.toNat_natCast,Nat.mul_div_cancel _ f0]
      rw[e3]
      skip
      (conv=>whnf)
      (repeat'(first|exact trivial|rfl|refine And.intro ?_ ?_|fail))
      ·exact a1
def c106:Con:=aL 181 false fun args K=>match args with
 | [.seq (.int .i64) a,.seq (.int .i64) b]=>Need (qS a∧qS b∧b≠ []) (K (.tup [Ls (aD B9 ((valB B9 a).toNat/(valB B9 b).toNat)),Ls (aD B9 ((valB B9 a).toNat% (valB B9 b).toNat))]))
 | _=>False
theorem aH9 {b:List Int} (h:qS b) (hb:b≠ []):0<(valB B9 b).toNat:=by
 refine Nat.pos_of_ne_zero fun h0=>hb ?_
 rw[h.1,h0,aX]
theorem k106:aH Tryz.prog c106:=by
 refine aE rfl (enters_of Tryz.func181 (by kernel_rfl) rfl) ?_
 intro args K h
 simp only[c106] at h
 split at h
 ·rename_i a b
  refine ⟨_,h.go,?_⟩
  obtain ⟨⟨ha,hm⟩,⟨hb,hn⟩,hne⟩:=h.ok
  have ht:=aC (Γ:=[c129,c134,c99,aOc,aJ7,c136,c137,c138,c131]) (by simp[k129,k134,k99,k135h,k166s,k136,k137,k138,k131]) Tryz.func181 (by simp[Tryz.ntmps181]) rfl (b106 (valB B9 a).toNat (valB B9 b).toNat hm ⟨aH9 ⟨hb,hn⟩ hne,hn⟩)
  rw[← ha,← hb] at ht
  exact ht
 ·exact h.elim
def dvI (x y:Int):List UInt8 × List UInt8 × Int:=if lim (x.fdiv y) || lim (x.fmod y) then ([],[],4) else (itoa (x.fdiv y),itoa (x.fmod y),0)
noncomputable def divI (a b:List UInt8):List UInt8 × List UInt8 × Int:=if chk2 a b≠0 then ([],[],chk2 a b) else if b= [48] then ([],[],12) else dvI (valI a) (valI b)
theorem aOf {b:List UInt8} (h:form b) (h0:¬b= [48]):valI b≠0:=fun e=>h0 (by
 have:=pD h
 rw[e] at this
 rw[this]
 unfold itoa
 rw[if_neg (by omega)]
 exact cF (show 0<10 by omega))
theorem pw12:B9^100<B9^200:=Nat.pow_lt_pow_right (by decide) (by omega)
theorem aOg (x y:Int):dvI x y=if (resI (x.fdiv y)).2≠0∨(resI (x.fmod y)).2≠0 then ([],[],4) else ((resI (x.fdiv y)).1,(resI (x.fmod y)).1,0):=by
 unfold dvI resI
 by_cases h1:lim (x.fdiv y)=true<;>by_cases h2:lim (x.fmod y)=true<;>simp[h1,h2]
theorem tD {x y q r:Int} (hq:q=x.fdiv y) (hr:r=x.fmod y) (h1:q.natAbs<10^40) (h2:r.natAbs<10^40):dvI x y=(itoa q,itoa r,0):=by
 rw[aOg,← hq,← hr,eF h1,eF h2]
 simp
theorem aOh (p q:Prop) [Decidable p] [Decidable q] (m n:Nat) (hn:0<n):
  sgP (¬(p↔q)) ((if ¬(p↔q)∧0<m%n then m/n+1 else m/n:Nat):Int)=(sgP p m).fdiv (sgP q n)∧sgP q ((if ¬(p↔q)∧0<m%n then n-m%n else m%n:Nat):Int)=(sgP p m).fmod (sgP q n):=by
 have h:=aQp (decide p) m (decide q) n hn
 have e1:∀(r:Prop) [Decidable r] (k:Nat),sgn (decide r) k=sgP r k:=fun r _ k=>by unfold sgn sgP;by_cases hr:r<;>simp[hr]
 rw[Prod.mk.injEq,e1,e1,e1] at h
 have e2:∀k,sgn (decide p != decide q) k=sgP (¬(p↔q)) k:=fun k=>by
  unfold sgn sgP
  by_cases hp:p<;>by_cases hq:q<;>simp[hp,hq]
 rw[e2] at h
 have e3:(decide p≠decide q)↔¬(p↔q):=by by_cases hp:p<;>by_cases hq:q<;>simp[hp,hq]
 by_cases hc:¬(p↔q)∧0<m%n
 ·rw[if_pos hc,if_pos hc]
  rw[if_pos ⟨e3.2 hc.1,hc.2⟩,if_pos ⟨e3.2 hc.1,hc.2⟩] at h
  exact h
 ·rw[if_neg hc,if_neg hc]
  rw[if_neg (fun hx=>hc ⟨e3.1 hx.1,hx.2⟩),if_neg (fun hx=>hc ⟨e3.1 hx.1,hx.2⟩)] at h
  exact h
set_option maxHeartbeats 4000000 in
theorem b69 (a b:List UInt8):body Tryz.prog [c94,c95,c61,c98,c106,c107,c96] {} true Tryz.f129 [S a,S b] (.tup [S (divI a b).1,S (divI a b).2.1,I (divI a b).2.2]):=by
 unfold divI
 skip
 (refine Br.mk (fun _=>?_) (fun _=>?_))
 ·rename_i h
  rw[if_pos h]
  skip
  (conv=>whnf)
  (repeat'(first|exact trivial|rfl|refine And.intro ?_ ?_|fail))
 ·rename_i h
  rw[if_neg h]
  obtain ⟨ha,hb⟩:=fO h
  obtain ⟨fa,la⟩:=bH ha
  obtain ⟨fb,lb⟩:=bH hb
  skip
  (refine Br.mk (fun _=>?_) (fun _=>?_))
  ·rename_i h0
   rw[if_pos h0]
   skip
   (conv=>whnf)
   (repeat'(first|exact trivial|rfl|refine And.intro ?_ ?_|fail))
  ·rename_i h0
   rw[if_neg h0]
   have hy:=aOf fb h0
   skip
   refine Need.mk ⟨rfl,fa,fb⟩ ?_
   skip
   (refine Br.mk (fun _=>?_) (fun _=>?_))
   ·rename_i hs
    have h1:=dT fa hs.1
    have h2:=dT fb hs.2
    have hd:((valI a).tdiv (valI b)).natAbs≤(valI a).natAbs:=by rw[Int.natAbs_tdiv];exact Nat.div_le_self _ _
    have hm:((valI a).tmod (valI b)).natAbs<(valI b).natAbs:=by rw[Int.natAbs_tmod];exact Nat.mod_lt _ (by omega)
    have hsd:=aA3 (valI a) (valI b) hy
    (repeat'((conv=>whnf);first|refine Zb ?_|refine Zn ?_|(apply Pin.mk;apply Exists.intro)|apply Pinned.mk rfl rfl|fail))
    (refine Br.mk (fun _=>?_) (fun _=>?_))
    ·rename_i hr
     skip
     (refine Br.mk (fun _=>?_) (fun _=>?_))
     ·rename_i hsg
      rw[if_pos ⟨hr,hsg⟩,Prod.mk.injEq] at hsd
      rw[tD hsd.1 hsd.2 (by omega) (by omega)]
      (repeat'((conv=>whnf);first|refine Zn ?_|fail))
      (conv=>whnf)
      (repeat'(first|exact trivial|rfl|refine And.intro ?_ ?_|fail))
     ·rename_i hsg
      rw[if_neg (fun hx=>hsg hx.2),Prod.mk.injEq] at hsd
      rw[tD hsd.1 hsd.2 (by omega) (by omega)]
      skip
      (conv=>whnf)
      (repeat'(first|exact trivial|rfl|refine And.intro ?_ ?_|fail))
    ·rename_i hr
     rw[if_neg (fun hx=>hr hx.1),Prod.mk.injEq] at hsd
     rw[tD hsd.1 hsd.2 (by omega) (by omega)]
     skip
     (conv=>whnf)
     (repeat'(first|exact trivial|rfl|refine And.intro ?_ ?_|fail))
   ·rename_i hs
    skip
    refine Need.mk ⟨fa,by omega⟩ ?_
    skip
    refine Need.mk ⟨fb,by omega⟩ ?_
    have pb:0<aF (digs b):=Nat.pos_of_ne_zero fun e=>hy (by rw[cZ,e];unfold sgP;split<;>rfl)
    (repeat'((conv=>whnf);first|refine Zl ?_|fail))
    refine Need.mk ⟨bQ fa la,bQ fb lb,fun e=>by rw[iO (by decide)] at e;omega⟩ ?_
    rw[v9,v9,Int.toNat_natCast,Int.toNat_natCast]
    obtain ⟨d1,d2⟩:=aOh (a.headD 0=45) (b.headD 0=45) (aF (digs a)) (aF (digs b)) pb
    rw[← cZ,← cZ] at d1 d2
    rw[aOg]
    obtain ⟨M,hM⟩:∃M,aF (digs a)=M:=⟨_,rfl⟩
    obtain ⟨N,hN⟩:∃N,aF (digs b)=N:=⟨_,rfl⟩
    have cM:=(bQ fa la).2
    have cN:=(bQ fb lb).2
    rw[v9,Int.toNat_natCast,hM] at cM
    rw[v9,Int.toNat_natCast,hN] at cN
    rw[hM,hN] at d1 d2 ⊢
    rw[hN] at pb
    skip
    (refine Br.mk (fun _=>?_) (fun _=>?_))
    ·rename_i hne
     (repeat'((conv=>whnf);first|refine Zg fun _=>?_|fail))
     (refine Br.mk (fun _=>?_) (fun _=>?_))
     ·rename_i hrm
      have hpos:0<M%N:=Nat.pos_of_ne_zero fun e=>by rw[e,aX] at hrm;exact absurd hrm (by decide)
      rw[if_pos ⟨hne,hpos⟩] at d1 d2
      have ex1:(valB B9 (aD B9 (M/N))+valB B9 [(1:Int)]).toNat=M/N+1:=by rw[v9,show valB B9 [(1:Int)]=1 by simp[valB]];generalize M/N=k;omega
      have ex2:(valB B9 (aD B9 N)-valB B9 (aD B9 (M%N))).toNat=N-M%N:=by rw[v9,v9];omega
      have hv1:∀hd,@sgP (¬(a.headD 0=45↔b.headD 0=45)) hd (valB B9 (aD B9 (M/N+1)))=(valI a).fdiv (valI b):=fun hd=>by rw[← d1,v9];congr
      have hv2:sgP (b.headD 0=45) (valB B9 (aD B9 (N-M%N)))=(valI a).fmod (valI b):=by rw[← d2,v9]
      have lq:=fV (show M/N<B9^100 from Nat.lt_of_le_of_lt (Nat.div_le_self _ _) cM)
      have lr:=fV (show M%N<B9^100 from Nat.lt_trans (Nat.mod_lt _ pb) cN)
      have hml:=Nat.mod_lt M pb
      have lN:=fV cN
      have big1:M/N+1<B9^200:=by
       have h1:M/N<B9^100:=Nat.lt_of_le_of_lt (Nat.div_le_self _ _) cM
       have h2:B9^100<B9^200:=Nat.pow_lt_pow_right (by decide) (by omega)
       omega
      (repeat'((conv=>whnf);first|(apply Pin.mk;apply Exists.intro)|apply Pinned.mk rfl rfl|refine Zl ?_|fail))
      refine Need.mk ⟨aS (by decide) _,fun x hx=>?_,by omega,by show 1≤100000;omega⟩ ?_
      ·have:x=1:=by simpa using hx
       subst this
       exact ⟨by omega,by show (1:Int)<1000000000;omega⟩
      rw[ex1]
      (repeat'((conv=>whnf);first|(apply Pin.mk;apply Exists.intro)|apply Pinned.mk rfl rfl|fail))
      refine Need.mk ⟨aS (by decide) _,aS (by decide) _,by rw[v9,v9];omega,by omega,by omega⟩ ?_
      rw[ex2]
      skip
      refine Need.mk (dD (show M/N+1<B9^200 from big1)) ?_
      rw[hv1]
      skip
      refine Need.mk (dD (show N-M%N<B9^200 from (Nat.lt_trans (show N-M%N<B9^100 from Nat.lt_of_le_of_lt (Nat.sub_le _ _) cN) pw12))) ?_
      rw[hv2]
      skip
      (refine Br.mk (fun _=>?_) (fun _=>?_))
      ·rename_i z1
       rw[if_pos (.inl z1)]
       skip
       (conv=>whnf)
       (repeat'(first|exact trivial|rfl|refine And.intro ?_ ?_|fail))
      ·rename_i z1
       skip
       (refine Br.mk (fun _=>?_) (fun _=>?_))
       ·rename_i z2
        rw[if_pos (.inr z2)]
        skip
        (conv=>whnf)
        (repeat'(first|exact trivial|rfl|refine And.intro ?_ ?_|fail))
       ·rename_i z2
        rw[if_neg (fun hx=>hx.elim z1 z2)]
        skip
        (conv=>whnf)
        (repeat'(first|exact trivial|rfl|refine And.intro ?_ ?_|fail))
     ·rename_i hrm
      have h00:M%N=0:=by
       have:(aD B9 (M%N)).length=0:=by omega
       exact (iO (by decide)).1 (List.eq_nil_of_length_eq_zero this)
      have d1':(valI a).fdiv (valI b)=sgP (¬(a.headD 0=45↔b.headD 0=45)) ((M/N:Nat):Int):=by rw[← d1,if_neg (fun hx=>absurd hx.2 (by omega))]
      have d2':(valI a).fmod (valI b)=sgP (b.headD 0=45) ((M%N:Nat):Int):=by rw[← d2,if_neg (fun hx=>absurd hx.2 (by omega))]
      have hv1:∀hd,@sgP (¬(a.headD 0=45↔b.headD 0=45)) hd (valB B9 (aD B9 (M/N)))=(valI a).fdiv (valI b):=fun hd=>by rw[d1',v9];congr
      have hv2:sgP (b.headD 0=45) (valB B9 (aD B9 (M%N)))=(valI a).fmod (valI b):=by rw[d2',v9]
      skip
      refine Need.mk (dD (Nat.lt_trans ((show M/N<B9^100 from Nat.lt_of_le_of_lt (Nat.div_le_self _ _) cM)) pw12)) ?_
      rw[hv1]
      skip
      refine Need.mk (dD (Nat.lt_trans ((show M%N<B9^100 from Nat.lt_trans (Nat.mod_lt _ pb) cN)) pw12)) ?_
      rw[hv2]
      skip
      (refine Br.mk (fun _=>?_) (fun _=>?_))
      ·rename_i z1
       rw[if_pos (.inl z1)]
       skip
       (conv=>whnf)
       (repeat'(first|exact trivial|rfl|refine And.intro ?_ ?_|fail))
      ·rename_i z1
       skip
       (refine Br.mk (fun _=>?_) (fun _=>?_))
       ·rename_i z2
        rw[if_pos (.inr z2)]
        skip
        (conv=>whnf)
        (repeat'(first|exact trivial|rfl|refine And.intro ?_ ?_|fail))
       ·rename_i z2
        rw[if_neg (fun hx=>hx.elim z1 z2)]
        skip
        (conv=>whnf)
        (repeat'(first|exact trivial|rfl|refine And.intro ?_ ?_|fail))
    ·rename_i hne
     have d1':(valI a).fdiv (valI b)=sgP (¬(a.headD 0=45↔b.headD 0=45)) ((M/N:Nat):Int):=by rw[← d1,if_neg (fun hx=>hne hx.1)]
     have d2':(valI a).fmod (valI b)=sgP (b.headD 0=45) ((M%N:Nat):Int):=by rw[← d2,if_neg (fun hx=>hne hx.1)]
     have hv1:∀hd,@sgP (¬(a.headD 0=45↔b.headD 0=45)) hd (valB B9 (aD B9 (M/N)))=(valI a).fdiv (valI b):=fun hd=>by rw[d1',v9];congr
     have hv2:sgP (b.headD 0=45) (valB B9 (aD B9 (M%N)))=(valI a).fmod (valI b):=by rw[d2',v9]
     skip
     refine Need.mk (dD (Nat.lt_trans ((show M/N<B9^100 from Nat.lt_of_le_of_lt (Nat.div_le_self _ _) cM)) pw12)) ?_
     rw[hv1]
     skip
     refine Need.mk (dD (Nat.lt_trans ((show M%N<B9^100 from Nat.lt_trans (Nat.mod_lt _ pb) cN)) pw12)) ?_
     rw[hv2]
     skip
     (refine Br.mk (fun _=>?_) (fun _=>?_))
     ·rename_i z1
      rw[if_pos (.inl z1)]
      skip
      (conv=>whnf)
      (repeat'(first|exact trivial|rfl|refine And.intro ?_ ?_|fail))
     ·rename_i z1
      skip
      (refine Br.mk (fun _=>?_) (fun _=>?_))
      ·rename_i z2
       rw[if_pos (.inr z2)]
       skip
       (conv=>whnf)
       (repeat'(first|exact trivial|rfl|refine And.intro ?_ ?_|fail))
      ·rename_i z2
       rw[if_neg (fun hx=>hx.elim z1 z2)]
       skip
       (conv=>whnf)
       (repeat'(first|exact trivial|rfl|refine And.intro ?_ ?_|fail))
def c69:Con:=aL 129 true fun args K=>match args with | [.str a,.str b]=>K (.tup [S (divI a b).1,S (divI a b).2.1,I (divI a b).2.2]) | _=>False
theorem k69:aH Tryz.prog c69:=by
 refine aE rfl (enters_of Tryz.func129 (by kernel_rfl) rfl) ?_
 intro args K h
 simp only[c69] at h
 split at h
 ·rename_i a b;exact ⟨_,h,aC (Γ:=[c94,c95,c61,c98,c106,c107,c96]) (by simp[k94,k95,k61,k98,k106,k107,k96]) Tryz.func129 (by simp[Tryz.ntmps129]) rfl (b69 a b)⟩
 ·exact h.elim
theorem yG {P:Program} {fr:Bool} {f:FuncId} {args args':List SV} {r:SV} (h:Tri P fr f args r) (he:ent.entL args' args):Tri P fr f args' r:=
 fun ok w vs hg hok hr=>h ok w vs hg hok (eC he hr)
def c96g:Con:=aL 140 true fun args K=>match args with
 | [.agg [.val (.bool false),.seq (.int .i64) a]]=>Need (uV a) (K (.tup [S (resI (valB B9 a)).1,I (resI (valB B9 a)).2]))
 | _=>False
theorem k96g:aH Tryz.prog c96g:=by
 refine aE rfl (enters_of Tryz.func140 (by kernel_rfl) rfl) ?_
 intro args K h
 simp only[c96g] at h
 split at h
 ·rename_i a
  refine ⟨_,h.go,?_⟩
  have ht:=aC (Γ:=[c128,c88]) (by simp[k128,k88]) Tryz.func140 (by simp[Tryz.ntmps140]) rfl (b96 False inferInstance a h.ok)
  refine yG (args:=[.agg [.bl False inferInstance,Ls a]]) ht ⟨⟨fun h=>h,?_,trivial⟩,trivial⟩
  rfl
 ·exact h.elim
theorem sC (x y:Int):Int.gcd y (x.tmod y)=Int.gcd x y:=by
 unfold Int.gcd
 rw[Int.natAbs_tmod,Nat.gcd_comm,← Nat.gcd_rec,Nat.gcd_comm]
theorem mW (p:Prop) [Decidable p] (n:Nat):(sgP p n).natAbs=n:=by unfold sgP;split<;>omega
theorem yH {m:Nat} (h:m<B9^34):qS (aD B9 m):=by
 refine ⟨by rw[v9,Int.toNat_natCast],?_⟩
 rw[v9,Int.toNat_natCast]
 exact Nat.lt_of_lt_of_le h (Nat.pow_le_pow_right (by decide) (by omega))
set_option maxHeartbeats 4000000 in
theorem b89 (a b:List UInt8):body Tryz.prog [c94,c95,c61,c98,c106,c96g] { asks:=[(0,[]),(2,[])] } true Tryz.f144 [S a,S b] (.tup [S (bE a b (resI (Int.gcd (valI a) (valI b)))).1,I (bE a b (resI (Int.gcd (valI a) (valI b)))).2]):=by
 unfold bE
 skip
 (refine Br.mk (fun _=>?_) (fun _=>?_))
 ·rename_i h
  rw[if_pos h]
  skip
  (conv=>whnf)
  (repeat'(first|exact trivial|rfl|refine And.intro ?_ ?_|fail))
 ·rename_i h
  rw[if_neg h]
  obtain ⟨ha,hb⟩:=fO h
  obtain ⟨fa,la⟩:=bH ha
  obtain ⟨fb,lb⟩:=bH hb
  skip
  refine Need.mk ⟨rfl,fa,fb⟩ ?_
  skip
  (refine Br.mk (fun _=>?_) (fun _=>?_))
  ·rename_i hs
   have h1:=dT fa hs.1
   have h2:=dT fb hs.2
   skip
   refine Ask.mk ⟨{ X:=Int × Int,pre:=fun z=>Int.gcd z.1 z.2=Int.gcd (valI a) (valI b)∧z.1.natAbs≤1000000000000000000∧z.2.natAbs≤1000000000000000000,mod:=fun z _=>[(7,I z.1),(8,I z.2)],heap:=fun _ _=>[],mu:=fun z=>z.2.natAbs },rfl,?_⟩
   (repeat'((conv=>whnf);first|refine Zn ?_|fail))
   refine ⟨⟨(valI a,valI b),⟨rfl,by show (valI a).natAbs≤ _;omega,by show (valI b).natAbs≤ _;omega⟩,by (repeat'(first|exact trivial|rfl|refine And.intro ?_ ?_|fail))⟩,fun (z:Int × Int) hz=>?_⟩
   obtain ⟨z1,z2,z3⟩:=hz
   skip
   (refine Br.mk (fun _=>?_) (fun _=>?_))
   ·rename_i hy
    have hm:(z.1.tmod z.2).natAbs<z.2.natAbs:=by rw[Int.natAbs_tmod];exact Nat.mod_lt _ (by omega)
    (repeat'((conv=>whnf);first|refine Zb ?_|(apply Pin.mk;apply Exists.intro)|apply Pinned.mk rfl rfl|fail))
    (conv=>whnf)
    refine ⟨(z.2,z.1.tmod z.2),hm,⟨by rw[← z1];exact sC _ _,z3,by show (z.1.tmod z.2).natAbs≤ _;omega⟩,?_⟩
    (repeat'(first|exact trivial|rfl|refine And.intro ?_ ?_|fail))
   ·rename_i hy
    have hy:z.2=0:=by omega
    have hg:((Int.gcd (valI a) (valI b):Nat):Int)=max z.1 (-z.1):=by
     rw[← z1,hy,Int.gcd_zero_right]
     omega
    rw[hg,eF (by omega)]
    (repeat'((conv=>whnf);first|refine Zn ?_|fail))
    (conv=>whnf)
    (repeat'(first|exact trivial|rfl|refine And.intro ?_ ?_|fail))
  ·rename_i hs
   skip
   refine Need.mk ⟨fa,by omega⟩ ?_
   skip
   refine Need.mk ⟨fb,by omega⟩ ?_
   have pM:=iY fa la
   have pN:=iY fb lb
   have hgv:Int.gcd (valI a) (valI b)=Nat.gcd (aF (digs a)) (aF (digs b)):=by
    unfold Int.gcd
    rw[cZ,cZ,mW,mW]
   rw[hgv]
   skip
   refine Ask.mk ⟨{ X:=Nat × Nat,pre:=fun z=>Nat.gcd z.1 z.2=Nat.gcd (aF (digs a)) (aF (digs b))∧z.1<B9^34∧z.2<B9^34,mod:=fun z _=>[(10,Ls (aD B9 z.1)),(11,Ls (aD B9 z.2))],heap:=fun _ _=>[],mu:=fun z=>z.2 },rfl,?_⟩
   (repeat'((conv=>whnf);first|refine Zn ?_|fail))
   refine ⟨⟨(aF (digs a),aF (digs b)),⟨rfl,pM,pN⟩,by (repeat'(first|exact trivial|rfl|refine And.intro ?_ ?_|fail))⟩,fun (z:Nat × Nat) hz=>?_⟩
   obtain ⟨z1,z2,z3⟩:=hz
   (repeat'((conv=>whnf);first|refine Zg fun _=>?_|fail))
   (refine Br.mk (fun _=>?_) (fun _=>?_))
   ·rename_i hy
    have hy:0<z.2:=Nat.pos_of_ne_zero fun e=>by rw[e,aX] at hy;exact absurd hy (by decide)
    skip
    refine Need.mk ⟨yH z2,yH z3,fun e=>by rw[iO (by decide)] at e;omega⟩ ?_
    rw[v9,v9,Int.toNat_natCast,Int.toNat_natCast]
    skip
    refine ⟨(z.2,z.1%z.2),Nat.mod_lt _ hy,⟨by rw[← z1];show Nat.gcd z.2 (z.1%z.2)= _;rw[Nat.gcd_comm z.1 z.2,Nat.gcd_rec z.2 z.1];exact Nat.gcd_comm _ _,z3,Nat.lt_trans (Nat.mod_lt _ hy) z3⟩,?_⟩
    (repeat'(first|exact trivial|rfl|refine And.intro ?_ ?_|fail))
   ·rename_i hy
    have hy:z.2=0:=(iO (B:=B9) (by decide)).1 (List.eq_nil_of_length_eq_zero (by omega))
    rw[hy,Nat.gcd_zero_right] at z1
    rw[← z1]
    skip
    refine Need.mk (dD (Nat.lt_of_lt_of_le z2 (Nat.pow_le_pow_right (by decide) (by omega)))) ?_
    rw[v9]
    skip
    (conv=>whnf)
    (repeat'(first|exact trivial|rfl|refine And.intro ?_ ?_|fail))
def c89:Con:=aL 144 true fun args K=>match args with | [.str a,.str b]=>K (.tup [S (bE a b (resI (Int.gcd (valI a) (valI b)))).1,I (bE a b (resI (Int.gcd (valI a) (valI b)))).2]) | _=>False
theorem k89:aH Tryz.prog c89:=by
 refine aE rfl (enters_of Tryz.func144 (by kernel_rfl) rfl) ?_
 intro args K h
 simp only[c89] at h
 split at h
 ·rename_i a b;exact ⟨_,h,aC (Γ:=[c94,c95,c61,c98,c106,c96g]) (by simp[k94,k95,k61,k98,k106,k96g]) Tryz.func144 (by simp[Tryz.ntmps144]) rfl (b89 a b)⟩
 ·exact h.elim
end RB
end
section
set_option linter.unusedVariables false
set_option linter.unusedVariables false
namespace IB
open Go.Lib
def lead:List UInt8→Nat
 | []=>0
 | c::r=>if 48≤c.toNat∧c.toNat≤57 then lead r+1 else 0
theorem aDj:∀s,lead s≤s.length
 | []=>Nat.le_refl _
 | c::r=>by
  unfold lead
  split
  ·have:=aDj r;simp only[List.length_cons];omega
  ·omega
theorem yE:∀s:List UInt8,∀c∈s.take (lead s),aV c
 | [],c,h=>by simp at h
 | x::r,c,h=>by
  unfold lead at h
  split at h
  ·rename_i hx
   rw[List.take_succ_cons] at h
   rcases List.mem_cons.1 h with rfl | h
   ·exact hx
   ·exact yE r c h
  ·simp at h
theorem rZ:∀(s:List UInt8) (n:Nat),n≤s.length→(∀i,i<n→aV (s.getD i 0))→(n=s.length∨¬aV (s.getD n 0))→lead s=n
 | [],n,h1,_,_=>by simp at h1;subst h1;rfl
 | c::r,0,_,_,h3=>by
  rcases h3 with h3 | h3
  ·simp at h3
  ·unfold lead
   rw[if_neg]
   exact h3
 | c::r,n+1,h1,h2,h3=>by
  have hc:48≤c.toNat∧c.toNat≤57:=h2 0 (by omega)
  unfold lead
  rw[if_pos hc,rZ r n (by simpa using h1) (fun i hi=>h2 (i+1) (by omega)) (by
   rcases h3 with h3 | h3
   ·exact .inl (by simpa using h3)
   ·exact .inr h3)]
theorem aN8 {s:List UInt8}:lead s=s.length↔∀c∈s,aV c:=by
 constructor
 ·intro h c hc
  have:=yE s c
  rw[h,List.take_length] at this
  exact this hc
 ·intro h
  exact rZ s s.length (Nat.le_refl _) (fun i hi=>by
   rw[List.getD_eq_getElem?_getD,List.getElem?_eq_getElem hi]
   exact h _ (List.getElem_mem hi)) (.inl rfl)
def dgsN (s:List UInt8):Nat:=if 1<lead s∧s.headD 0=48 then 0 else lead s
def okD (s:List UInt8):Prop:=dgsN s≠0∧s.length≤dgsN s
theorem gV (s:List UInt8):okD s↔s≠ []∧(∀c∈s,aV c)∧(s.length=1∨s.headD 0≠48):=by
 have hl:=aDj s
 unfold okD dgsN
 rw[← aN8]
 by_cases h:1<lead s∧s.headD 0=48
 ·rw[if_pos h]
  refine ⟨fun hx=>absurd rfl hx.1,?_⟩
  rintro ⟨_,h2,h3⟩
  rcases h3 with h3 | h3
  ·omega
  ·exact absurd h.2 h3
 ·rw[if_neg h]
  constructor
  ·rintro ⟨h1,h2⟩
   have e:lead s=s.length:=by omega
   refine ⟨fun hx=>by rw[hx] at h1;exact h1 rfl,e,?_⟩
   by_cases h48:s.headD 0=48
   ·left
    have:¬1<lead s:=fun hx=>h ⟨hx,h48⟩
    omega
   ·exact .inr h48
  ·rintro ⟨h1,h2,h3⟩
   have:=List.length_pos_iff.2 h1
   exact ⟨by omega,by omega⟩
theorem aJ2 {s:List UInt8} (h1:s.length=1) (h:s.headD 0=48):s= [48]:=by
 cases s with
 | nil=>simp at h1
 | cons c r=>
  have:r= []:=by simpa using h1
  subst this
  simp at h;rw[h]
theorem aGe (t:List UInt8):form t↔okD (digs t)∧¬(t.headD 0=45∧digs t= [48]):=by
 rw[gV]
 unfold form
 constructor
 ·rintro ⟨h1,h2,h3⟩
  refine ⟨⟨h1,h3,?_⟩,?_⟩
  ·rcases h2 with h2 | h2
   ·exact .inr h2
   ·left;rw[h2];rfl
  ·rintro ⟨q1,q2⟩
   rcases h2 with h2 | h2
   ·rw[q2] at h2;exact h2 rfl
   ·rw[h2] at q1;simp at q1
 ·rintro ⟨⟨h1,h2,h3⟩,h4⟩
  refine ⟨h1,?_,h2⟩
  by_cases h48:(digs t).headD 0=48
  ·right
   rcases h3 with h3 | h3
   ·have e:=aJ2 h3 h48
    have hn:¬t.headD 0=45:=fun q=>h4 ⟨q,e⟩
    unfold digs at e
    rw[if_neg hn] at e
    exact e
   ·exact absurd h48 h3
  ·exact .inl h48
theorem aJ3 (d:List UInt8):(d=decDigits (aF d)∧2≤aF d)↔okD d∧¬d= [48]∧¬d= [49]:=by
 rw[gV]
 constructor
 ·rintro ⟨h1,h2⟩
  have hd:∀c∈d,aV c:=fun c hc=>by rw[h1] at hc;exact fY _ _ hc
  have hne:d≠ []:=fun e=>by rw[e] at h2;exact absurd h2 (by decide)
  refine ⟨⟨hne,hd,?_⟩,fun e=>by rw[e] at h2;exact absurd h2 (by decide),fun e=>by rw[e] at h2;exact absurd h2 (by decide)⟩
  right
  rw[h1]
  exact oE _ (by omega)
 ·rintro ⟨⟨h1,h2,h3⟩,h4,h5⟩
  have e:=lQ d.length d rfl h1 h2 h3
  refine ⟨e.symm,?_⟩
  apply Classical.byContradiction
  intro hn
  have:aF d=0∨aF d=1:=by omega
  rcases this with h | h
  ·rw[h,cF (by omega)] at e;exact h4 e.symm
  ·rw[h,cF (by omega)] at e;exact h5 e.symm
theorem kX:∀s:List UInt8,Go.Lib.indexByte s 47=if botS s= [] then -1 else ((topS s).length:Int)
 | []=>rfl
 | c::r=>by
  have ih:=kX r
  by_cases h:c=47
  ·subst h
   simp[Go.Lib.indexByte,botS,topS]
  ·have e1:botS (c::r)=botS r:=by simp[botS,h]
   have e2:topS (c::r)=c::topS r:=by simp[topS,h]
   rw[e1,e2]
   simp only[Go.Lib.indexByte]
   rw[ih]
   by_cases hb:botS r= []
   ·simp[hb,h]
   ·simp[hb,h]
theorem sA (s:List UInt8):topS s++botS s=s:=List.takeWhile_append_dropWhile
theorem aN9 (s:List UInt8):s.take (topS s).length=topS s:=by
 have:=List.take_left (l₁:=topS s) (l₂:=botS s)
 rwa [sA] at this
theorem aOa (s:List UInt8):s.drop (topS s).length=botS s:=by
 have:=List.drop_left (l₁:=topS s) (l₂:=botS s)
 rwa [sA] at this
end IB
end
section
open Go Go.Proofs Go.Eng Go.Shelf IB Go.Lib Go.RowKit
namespace RB
set_option maxRecDepth 10000
set_option linter.unusedVariables false
set_option linter.unusedSimpArgs false
theorem b105 (a b:Int) (h:(0≤a∧a≤4000000000000000000)∧(0≤b∧b≤4000000000000000000)):body Tryz.prog [] { asks:=[(0,[])] } true Tryz.f173 [I a,I b] (I (Int.gcd a b)):=by
 obtain ⟨ha,hb⟩:=h
 skip
 refine Ask.mk ⟨{ X:=Int × Int,pre:=fun z=>Int.gcd z.1 z.2=Int.gcd a b∧(0≤z.1∧z.1≤4000000000000000000)∧(0≤z.2∧z.2≤4000000000000000000),mod:=fun z _=>[(0,I z.1),(1,I z.2)],heap:=fun _ _=>[],mu:=fun z=>z.2.natAbs },rfl,?_⟩
 (repeat'((conv=>whnf);first|refine Zn ?_|fail))
 refine ⟨⟨(a,b),⟨rfl,ha,hb⟩,by (repeat'(first|exact trivial|rfl|refine And.intro ?_ ?_|fail))⟩,fun (z:Int × Int) hz=>?_⟩
 obtain ⟨z1,z2,z3⟩:=hz
 skip
 (refine Br.mk (fun _=>?_) (fun _=>?_))
 ·rename_i hy
  have hm:(z.1.tmod z.2).natAbs<z.2.natAbs:=by rw[Int.natAbs_tmod];exact Nat.mod_lt _ (by omega)
  have hm0:0≤z.1.tmod z.2:=Int.tmod_nonneg _ z2.1
  (repeat'((conv=>whnf);first|refine Za ?_|(apply Pin.mk;apply Exists.intro)|apply Pinned.mk rfl rfl|fail))
  (conv=>whnf)
  refine ⟨(z.2,z.1.tmod z.2),hm,⟨by rw[← z1];exact sC _ _,z3,hm0,by show z.1.tmod z.2≤ _;omega⟩,?_⟩
  (repeat'(first|exact trivial|rfl|refine And.intro ?_ ?_|fail))
  exact (Int.tmod_eq_emod_of_nonneg z2.1).symm
 ·rename_i hy
  have hy:z.2=0:=by omega
  have hg:((Int.gcd a b:Nat):Int)=z.1:=by
   rw[← z1,hy,Int.gcd_zero_right]
   omega
  rw[hg]
  skip
  (conv=>whnf)
  (repeat'(first|rfl|refine And.intro ?_ ?_|fail))
def c105:Con:=aL 173 true fun args K=>match args with | [.val (.int .i64 a),.val (.int .i64 b)]=>Need ((0≤a∧a≤4000000000000000000)∧(0≤b∧b≤4000000000000000000)) (K (I (Int.gcd a b))) | _=>False
theorem k105:aH Tryz.prog c105:=by
 refine aE rfl (enters_of Tryz.func173 (by kernel_rfl) rfl) ?_
 intro args K h
 simp only[c105] at h
 split at h
 ·rename_i a b;exact ⟨_,h.go,aC (Γ:=[]) (by simp) Tryz.func173 (by simp[Tryz.ntmps173]) rfl (b105 a b h.ok)⟩
 ·exact h.elim
theorem aQt {P:Program} {fr:Bool} {f:FuncId} {s:List UInt8} {r:List SV} {x:SV} (h:s.length≤140737488355328→Tri P fr f (.str s::r) x):Tri P fr f (.str s::r) x:=by
 intro ok w vs hg hok hr
 cases hr with
 | cons _ v1 _ vs1 h1 hr=>
 cases h1 with
 | str _ hl=>exact h hl ok w _ hg hok (.cons _ _ _ _ (.str _ hl) hr)
theorem aJ8 (s:List UInt8): -1≤Lib.indexByte s 47∧Lib.indexByte s 47≤s.length:=by
 rw[kX]
 split
 ·omega
 ·have:=congrArg List.length (sA s)
  rw[List.length_append] at this
  omega
theorem t170 (s:List UInt8):Tri Tryz.prog true 261 [S s,S [47]] (I (Lib.indexByte s 47)):=by
 intro ok w vs hg hok hr
 cases hr with
 | cons _ v1 _ vs1 h1 hr=>
 cases h1 with
 | str _ hl=>
 obtain ⟨rfl,_⟩:=sG hr
 have hl':s.length≤140737488355328:=hl
 have hb:=aJ8 s
 refine (Any.stringslite_Index_one RL.lX ⟨s.toArray⟩ 47 w).mono ?_
 rintro e w' ⟨rfl,rfl⟩
 have hw:WV (.int .i64 (Lib.indexByte s 47)):=by constructor<;>simp only[lo,hi]<;>omega
 exact ⟨_,rfl,Below.refl _ _,.val _ hw⟩
def c170:Con:=aL 261 true fun args K=>match args with | [.str s,.str p]=>Need (p= [47]) (K (I (Lib.indexByte s 47))) | _=>False
theorem k170:aH Tryz.prog c170:=by
 refine aE rfl (enters_of Tryz.func261 (by kernel_rfl) rfl) ?_
 intro args K h
 simp only[c170] at h
 split at h
 ·obtain ⟨rfl,h⟩:=h
  exact ⟨_,h,t170 _⟩
 ·exact h.elim
theorem b154 (s:List UInt8) (hl:s.length≤140737488355328):body Tryz.prog [c170] {} true Tryz.f238 [S s,S [47]] (.tup [S (topS s),S (botS s).tail,.bl (botS s≠ []) inferInstance]):=by
 have hb:=aJ8 s
 have hi:=kX s
 have htb:=congrArg List.length (sA s)
 rw[List.length_append] at htb
 (repeat'((conv=>whnf);first|refine Zn ?_|fail))
 (refine Br.mk (fun _=>?_) (fun _=>?_))
 ·rename_i h
  by_cases hbn:botS s= []
  ·rw[if_pos hbn] at hi;omega
  ·rw[if_neg hbn] at hi
   have hpos:=List.length_pos_iff.2 hbn
   rw[hi]
   (repeat'((conv=>whnf);first|refine Zg fun _=>?_|refine Zn ?_|refine Zj ?_|(apply Pin.mk;apply Exists.intro)|apply Pinned.mk rfl rfl|fail))
   (conv=>whnf)
   (repeat'(first|exact trivial|refine And.intro ?_ ?_|fail))
   ·exact aN9 s
   ·show s.drop ((topS s).length+1)=(botS s).tail
    rw[← List.drop_drop,aOa,List.drop_one]
   ·exact hbn
 ·rename_i h
  have hbn:botS s= []:=by
   refine Classical.byContradiction fun hx=>?_
   rw[if_neg hx] at hi;omega
  have ht:topS s=s:=by have:=sA s;rw[hbn,List.append_nil] at this;exact this
  skip
  (conv=>whnf)
  (repeat'(first|exact trivial|refine And.intro ?_ ?_|fail))
  ·exact ht.symm
  ·show ([]:List UInt8)= _
   rw[hbn];rfl
  ·exact fun hx=>hx hbn
def c154:Con:=aL 238 true fun args K=>match args with | [.str s,.str p]=>Need (p= [47]) (K (.tup [S (topS s),S (botS s).tail,.bl (botS s≠ []) inferInstance])) | _=>False
theorem k154:aH Tryz.prog c154:=by
 refine aE rfl (enters_of Tryz.func238 (by kernel_rfl) rfl) ?_
 intro args K h
 simp only[c154] at h
 split at h
 ·obtain ⟨rfl,h⟩:=h
  exact ⟨_,h,aQt fun hl=>aC (Γ:=[c170]) (by simp[k170]) Tryz.func238 (by simp[Tryz.ntmps238]) rfl (b154 _ hl)⟩
 ·exact h.elim
theorem b122 (s:List UInt8):body Tryz.prog [c154] {} true Tryz.f212 [S s,S [47]] (.tup [S (topS s),S (botS s).tail,.bl (botS s≠ []) inferInstance]):=by
 (repeat'((conv=>whnf);first|refine Zn ?_|fail))
 (conv=>whnf)
 (repeat'(first|exact trivial|rfl|refine And.intro ?_ ?_|fail))
def c122:Con:=aL 212 true fun args K=>match args with | [.str s,.str p]=>Need (p= [47]) (K (.tup [S (topS s),S (botS s).tail,.bl (botS s≠ []) inferInstance])) | _=>False
theorem k122:aH Tryz.prog c122:=by
 refine aE rfl (enters_of Tryz.func212 (by kernel_rfl) rfl) ?_
 intro args K h
 simp only[c122] at h
 split at h
 ·obtain ⟨rfl,h⟩:=h
  exact ⟨_,h,aC (Γ:=[c154]) (by simp[k154]) Tryz.func212 (by simp[Tryz.ntmps212]) rfl (b122 _)⟩
 ·exact h.elim
theorem yI (s:List UInt8) (i:Nat):(48≤aM s i∧aM s i≤57)↔aV (s.getD i 0):=by
 unfold aM aV;omega
theorem tE (s:List UInt8):aM s 0=48↔s.headD 0=48:=by
 unfold aM
 have e:s.getD 0 0=s.headD 0:=by cases s<;>rfl
 rw[e]
 constructor
 ·intro h
  have:(s.headD 0).toNat=(48:UInt8).toNat:=by show _=48;omega
  exact UInt8.toNat.inj this
 ·intro h;rw[h];rfl
theorem b124 (s:List UInt8):body Tryz.prog [] { asks:=[(0,[])] } true Tryz.f213 [S s] (I (dgsN s)):=by
 skip
 refine Ask.mk ⟨{ X:=Nat,pre:=fun n=>n≤s.length∧∀i,i<n→aV (s.getD i 0),mod:=fun n _=>[(3,I n)],heap:=fun _ _=>[],mu:=fun n=>s.length-n },rfl,?_⟩
 (repeat'((conv=>whnf);first|refine Zn ?_|fail))
 refine ⟨⟨(0:Nat),⟨Nat.zero_le _,fun i hi=>absurd hi (Nat.not_lt_zero _)⟩,by (repeat'(first|exact trivial|rfl|refine And.intro ?_ ?_|fail))⟩,fun (n:Nat) hn=>?_⟩
 obtain ⟨n1,n2⟩:=hn
 have hb:=yI s n
 have h0:=tE s
 by_cases hc:n<s.length∧48≤aM s n∧aM s n≤57
 ·(repeat'((conv=>whnf);first|refine Zg fun _=>?_|refine Zn ?_|refine Zj ?_|refine Zy ?_|fail))
  all_goals first | (exfalso;omega) | skip
  skip
  refine ⟨(n+1:Nat),by show s.length-(n+1)<s.length-n;omega,⟨by omega,fun i hi=>?_⟩,by (repeat'(first|exact trivial|rfl|refine And.intro ?_ ?_|fail))⟩
  by_cases e:i=n
  ·subst e;exact hb.1 hc.2
  ·exact n2 i (by omega)
 ·have hl:lead s=n:=rZ s n n1 n2 (by
   by_cases e:n=s.length
   ·exact .inl e
   ·right
    rw[← hb];intro hx;exact hc ⟨by omega,hx⟩)
  have hd:(dgsN s:Int)=if 1<n∧aM s 0=48 then 0 else (n:Int):=by
   unfold dgsN
   rw[hl]
   by_cases q:1<n∧aM s 0=48
   ·rw[if_pos q,if_pos ⟨q.1,h0.1 q.2⟩];rfl
   ·rw[if_neg q,if_neg (fun hx=>q ⟨hx.1,h0.2 hx.2⟩)]
  (repeat'((conv=>whnf);first|refine Zg fun _=>?_|refine Zn ?_|refine Z0 ?_|refine Zj ?_|refine Zm ?_|refine Zr (fun _=>?_) fun _=>?_|fail))
  all_goals first | (exfalso;omega) | skip
  all_goals (skip;(conv=>whnf);(repeat'(first|rfl|refine And.intro ?_ ?_|fail)))
  all_goals (rw[hd];first | rw[if_pos (by omega)] | rw[if_neg (by omega)])
def c124:Con:=aL 213 true fun args K=>match args with | [.str s]=>K (I (dgsN s)) | _=>False
theorem k124:aH Tryz.prog c124:=by
 refine aE rfl (enters_of Tryz.func213 (by kernel_rfl) rfl) ?_
 intro args K h
 simp only[c124] at h
 split at h
 ·rename_i s;exact ⟨_,h,aC (Γ:=[]) (by simp) Tryz.func213 (by simp[Tryz.ntmps213]) rfl (b124 s)⟩
 ·exact h.elim
theorem itoa_zero:itoa 0= [48]:=by
 unfold itoa
 rw[if_neg (by omega)]
 exact cF (show 0<10 by omega)
theorem b92 (x:Int) (hlx:(itoa x).length≤1000):body Tryz.prog [c123] {} true Tryz.f143 [S (itoa x)] (S (itoa (-x))):=by
 skip
 (refine Br.mk (fun _=>?_) (fun _=>?_))
 ·rename_i h
  have hx:x=0:=gU (by rw[itoa_zero];exact h)
  subst hx
  skip
  (conv=>whnf)
  (repeat'(first|rfl|fail))
 ·rename_i h
  have hx:x≠0:=fun e=>h (by rw[e,itoa_zero])
  have hh:=iP x
  have hd:=bU x
  (repeat'((conv=>whnf);first|refine Zn ?_|fail))
  (refine Br.mk (fun _=>?_) (fun _=>?_))
  ·rename_i hn
   have hn:=hh.1 hn
   have e:itoa (-x)=digs (itoa x):=by
    rw[hd]
    unfold itoa
    rw[if_neg (by omega)]
    congr 1;omega
   rw[e]
   skip
   (conv=>whnf)
   skip
  ·rename_i hn
   have hn:¬x<0:=fun e=>hn (hh.2 e)
   have e:itoa (-x)=45::itoa x:=by
    unfold itoa
    rw[if_pos (by omega),if_neg (by omega)]
    congr 2;omega
   rw[e]
   (repeat'((conv=>whnf);first|refine Zn ?_|fail))
   (conv=>whnf)
   (repeat'(first|rfl|fail))
def c92:Con:=aL 143 true fun args K=>match args with | [.str s]=>Need (form s∧s.length≤1000) (K (S (itoa (-valI s)))) | _=>False
theorem k92:aH Tryz.prog c92:=by
 refine aE rfl (enters_of Tryz.func143 (by kernel_rfl) rfl) ?_
 intro args K h
 simp only[c92] at h
 split at h
 ·rename_i s
  obtain ⟨⟨h1,h2⟩,h⟩:=h
  refine ⟨_,h,?_⟩
  have e:=pD h1
  have:=aC (Γ:=[c123]) (by simp[k123]) Tryz.func143 (by simp[Tryz.ntmps143]) rfl (b92 (valI s) (by rw[← e];exact h2))
  rwa [← e] at this
 ·exact h.elim
def bot1 (s:List UInt8):List UInt8:=if botS s= [] then [49] else (botS s).tail
theorem uP (s:List UInt8):jL s↔(((dgsN (digs (topS s)):Int)≠0∧((digs (topS s)).length:Int)≤dgsN (digs (topS s)))∧¬((topS s).headD 0=45∧digs (topS s)= [48]))∧
  (botS s= []∨(((dgsN (botS s).tail:Int)≠0∧((botS s).tail.length:Int)≤dgsN (botS s).tail)∧¬(botS s).tail= [48]∧¬(botS s).tail= [49])):=by
 unfold jL
 rw[aGe]
 have e:∀d:List UInt8,okD d↔((dgsN d:Int)≠0∧(d.length:Int)≤dgsN d):=fun d=>by unfold okD;omega
 rw[e]
 refine and_congr Iff.rfl ?_
 by_cases hb:botS s= []
 ·simp[hb]
 ·have hd:denS s=aF (botS s).tail:=by unfold denS;rw[if_neg hb]
  rw[hd,aJ3,e]
theorem b87y (s:List UInt8) (hf:jL s):body Tryz.prog [c122,c123,c124] {} true Tryz.f175 [S s] (.tup [.agg [S (topS s),S (bot1 s)],.val (.bool true)]):=by
 have hF:=(uP s).1 hf
 obtain ⟨⟨⟨f1,f2⟩,f3⟩,f4⟩:=hF
 unfold bot1
 (repeat'((conv=>whnf);first|refine Zg fun _=>?_|refine Zn ?_|refine Zm ?_|refine Zr (fun _=>?_) fun _=>?_|fail))
 all_goals first | (exfalso;omega) | skip
 all_goals first
  | (exfalso;simp_all;done)
  | (exfalso;simp_all;omega)
  | (skip;(conv=>whnf);(repeat'(first|exact trivial|rfl|refine And.intro ?_ ?_|fail));simp_all;exact @rfl (List UInt8) _)
theorem b87n (s:List UInt8) (hf:¬jL s):body Tryz.prog [c122,c123,c124] {} true Tryz.f175 [S s] (.tup [.agg [S [],S []],.val (.bool false)]):=by
 have hF:=fun h=>hf ((uP s).2 h)
 (repeat'((conv=>whnf);first|refine Zg fun _=>?_|refine Zn ?_|refine Zr (fun _=>?_) fun _=>?_|fail))
 all_goals first
  | (exfalso;simp_all;done)
  | (exfalso;simp_all;omega)
  | (skip;(conv=>whnf);(repeat'(first|exact trivial|rfl|refine And.intro ?_ ?_|fail));done)
  | (exfalso;refine hF ⟨⟨⟨by omega,by omega⟩,?_⟩,?_⟩
     ·first | exact fun hx=>absurd hx.2 (by assumption) | exact fun hx=>absurd hx.1 (by assumption)
     ·first | exact .inl (Classical.not_not.1 (by assumption)) | exact .inr ⟨⟨by omega,by omega⟩,by assumption,by assumption⟩)
def c87:Con:=aL 175 true fun args K=>match args with
 | [.str s]=>Br (jL s) (K (.tup [.agg [S (topS s),S (bot1 s)],.val (.bool true)])) (K (.tup [.agg [S [],S []],.val (.bool false)]))
 | _=>False
theorem k87:aH Tryz.prog c87:=by
 refine aE rfl (enters_of Tryz.func175 (by kernel_rfl) rfl) ?_
 intro args K h
 simp only[c87] at h
 split at h
 ·rename_i s
  by_cases hf:jL s
  ·exact ⟨_,h.yes hf,aC (Γ:=[c122,c123,c124]) (by simp[k122,k123,k124]) Tryz.func175 (by simp[Tryz.ntmps175]) rfl (b87y s hf)⟩
  ·exact ⟨_,h.no hf,aC (Γ:=[c122,c123,c124]) (by simp[k122,k123,k124]) Tryz.func175 (by simp[Tryz.ntmps175]) rfl (b87n s hf)⟩
 ·exact h.elim
def uQ (s:List UInt8):Prop:=1≤lead s∧lead s≤8∧¬(1<lead s∧s.headD 0=48)
theorem aOi {s:List UInt8} {i:Nat} (hi:i≤s.length) (h:∀j,j<i→aV (s.getD j 0)):∀c∈s.take i,aV c:=by
 intro c hc
 obtain ⟨j,hj,rfl⟩:=List.getElem_of_mem hc
 rw[List.length_take] at hj
 have:=h j (by omega)
 rw[List.getD_eq_getElem?_getD,List.getElem?_eq_getElem (by omega)] at this
 simpa using this
theorem yJ {s:List UInt8} {i:Nat} (hi:i<s.length) (hd:aV (s.getD i 0)):(aF (s.take (i+1)):Int)=10*aF (s.take i)+(aM s i-48):=by
 have e:s.take (i+1)=s.take i++ [s.getD i 0]:=by
  rw[List.take_succ_eq_append_getElem hi]
  simp[List.getD_eq_getElem?_getD,hi]
 rw[e,dH]
 unfold aM
 unfold aV at hd
 omega
theorem yK {s:List UInt8} {i:Nat} (hi:i≤s.length) (h:∀j,j<i→aV (s.getD j 0)) (h9:i≤9):aF (s.take i)<1000000000:=by
 have h1:=cH (s.take i) (aOi hi h)
 have h2:(10:Nat)^ (s.take i).length≤10^9:=Nat.pow_le_pow_right (by omega) (by rw[List.length_take];omega)
 have h3:(10:Nat)^9=1000000000:=by decide
 omega
theorem aDl:∀(s:List UInt8) (n:Nat),n≤s.length→(∀i,i<n→aV (s.getD i 0))→n≤lead s
 | _,0,_,_=>Nat.zero_le _
 | [],n+1,h,_=>by simp at h
 | c::r,n+1,h1,h2=>by
  have hc:48≤c.toNat∧c.toNat≤57:=h2 0 (by omega)
  unfold lead
  rw[if_pos hc]
  have:=aDl r n (by simpa using h1) (fun i hi=>h2 (i+1) (by omega))
  omega
theorem b104y (s:List UInt8) (h:uQ s):body Tryz.prog [] { asks:=[(0,[])] } true Tryz.f172 [S s] (.tup [I (aF (s.take (lead s))),S (s.drop (lead s)),.val (.bool true)]):=by
 obtain ⟨o1,o2,o3⟩:=h
 rw[← tE] at o3
 skip
 refine Ask.mk ⟨{ X:=Nat,pre:=fun n=>n≤9∧n≤s.length∧∀i,i<n→aV (s.getD i 0),mod:=fun n _=>[(5,I (aF (s.take n))),(6,I n)],heap:=fun _ _=>[],mu:=fun n=>s.length-n },rfl,?_⟩
 (repeat'((conv=>whnf);first|refine Zn ?_|fail))
 refine ⟨⟨(0:Nat),⟨by omega,Nat.zero_le _,fun i hi=>absurd hi (Nat.not_lt_zero _)⟩,by (repeat'(first|exact trivial|rfl|refine And.intro ?_ ?_|fail))⟩,fun (n:Nat) hn=>?_⟩
 obtain ⟨n9,n1,n2⟩:=hn
 have hb:=yI s n
 have hv:=yK n1 n2 n9
 have hge:=aDl s n n1 n2
 by_cases hc:n<s.length∧48≤aM s n∧aM s n≤57
 ·have hs:=yJ hc.1 (hb.1 hc.2)
  (repeat'((conv=>whnf);first|refine Zg fun _=>?_|refine Zn ?_|refine Zj ?_|refine Zy ?_|fail))
  all_goals first | (exfalso;omega) | skip
  all_goals (skip;(conv=>whnf);refine ⟨(n+1:Nat),by show s.length-(n+1)<s.length-n;omega,⟨by omega,by omega,fun i hi=>by
     by_cases e:i=n
     ·subst e;exact hb.1 hc.2
     ·exact n2 i (by omega)⟩,?_⟩;(repeat'(first|exact trivial|rfl|refine And.intro ?_ ?_|omega|fail));done)
 ·have hl:lead s=n:=rZ s n n1 n2 (by
   by_cases e:n=s.length
   ·exact .inl e
   ·right
    rw[← hb];intro hx;exact hc ⟨by omega,hx⟩)
  have hr:(.tup [I (aF (s.take (lead s))),S (s.drop (lead s)),.val (.bool true)]:SV)= .tup [I (aF (s.take n)),S (s.drop n),.val (.bool true)]:=by rw[hl]
  rw[hr]
  rw[hl] at o1 o2 o3
  (repeat'((conv=>whnf);first|refine Zg fun _=>?_|refine Zn ?_|refine Z0 ?_|refine Zj ?_|(apply Pin.mk;apply Exists.intro)|apply Pinned.mk rfl rfl|refine Zy ?_|refine Zm ?_|refine Zr (fun _=>?_) fun _=>?_|fail))
  all_goals first | (exfalso;omega) | skip
  all_goals (skip;(conv=>whnf);(repeat'(first|exact trivial|rfl|refine And.intro ?_ ?_|fail)))
theorem b104n (s:List UInt8) (h:¬uQ s):body Tryz.prog [] { asks:=[(0,[])] } true Tryz.f172 [S s] (.tup [I 0,S [],.val (.bool false)]):=by
 have h:¬(1≤lead s∧lead s≤8∧¬(1<lead s∧aM s 0=48)):=by rw[tE];exact h
 skip
 refine Ask.mk ⟨{ X:=Nat,pre:=fun n=>n≤9∧n≤s.length∧∀i,i<n→aV (s.getD i 0),mod:=fun n _=>[(5,I (aF (s.take n))),(6,I n)],heap:=fun _ _=>[],mu:=fun n=>s.length-n },rfl,?_⟩
 (repeat'((conv=>whnf);first|refine Zn ?_|fail))
 refine ⟨⟨(0:Nat),⟨by omega,Nat.zero_le _,fun i hi=>absurd hi (Nat.not_lt_zero _)⟩,by (repeat'(first|exact trivial|rfl|refine And.intro ?_ ?_|fail))⟩,fun (n:Nat) hn=>?_⟩
 obtain ⟨n9,n1,n2⟩:=hn
 have hb:=yI s n
 have hv:=yK n1 n2 n9
 have hge:=aDl s n n1 n2
 by_cases hc:n<s.length∧48≤aM s n∧aM s n≤57
 ·have hs:=yJ hc.1 (hb.1 hc.2)
  (repeat'((conv=>whnf);first|refine Zg fun _=>?_|refine Zn ?_|refine Zj ?_|refine Zy ?_|refine Zm ?_|refine Zr (fun _=>?_) fun _=>?_|fail))
  all_goals first | (exfalso;omega) | skip
  all_goals first | (skip;(conv=>whnf);refine ⟨(n+1:Nat),by show s.length-(n+1)<s.length-n;omega,⟨by omega,by omega,fun i hi=>by
     by_cases e:i=n
     ·subst e;exact hb.1 hc.2
     ·exact n2 i (by omega)⟩,?_⟩;(repeat'(first|exact trivial|rfl|refine And.intro ?_ ?_|omega|fail));done) | (skip;(conv=>whnf);(repeat'(first|exact trivial|rfl|refine And.intro ?_ ?_|fail));done)
 ·have hl:lead s=n:=rZ s n n1 n2 (by
   by_cases e:n=s.length
   ·exact .inl e
   ·right
    rw[← hb];intro hx;exact hc ⟨by omega,hx⟩)
  rw[hl] at h
  (repeat'((conv=>whnf);first|refine Zg fun _=>?_|refine Zn ?_|refine Z0 ?_|refine Zj ?_|refine Zy ?_|refine Zm ?_|refine Zr (fun _=>?_) fun _=>?_|fail))
  all_goals first | (exfalso;omega) | skip
  all_goals (skip;(conv=>whnf);(repeat'(first|exact trivial|rfl|refine And.intro ?_ ?_|fail)))
theorem jZ {s:List UInt8} (h:uQ s):s.take (lead s)=decDigits (aF (s.take (lead s)))∧aF (s.take (lead s))<100000000:=by
 obtain ⟨h1,h2,h3⟩:=h
 have hl:=aDj s
 have hd:=yE s
 have hlen:(s.take (lead s)).length=lead s:=by rw[List.length_take];omega
 have hh:(s.take (lead s)).headD 0=s.headD 0:=by
  cases s with
  | nil=>rfl
  | cons c r=>
   obtain ⟨k,hk⟩:∃k,lead (c::r)=k+1:=⟨lead (c::r)-1,by omega⟩
   rw[hk];rfl
 refine ⟨(lQ _ _ rfl (fun e=>by rw[e] at hlen;simp at hlen;omega) hd ?_).symm,?_⟩
 ·rw[hlen,hh]
  by_cases h48:s.headD 0=48
  ·left
   have:¬1<lead s:=fun hx=>h3 ⟨hx,h48⟩
   omega
  ·exact .inr h48
 ·have h1:=cH (s.take (lead s)) hd
  have h2:(10:Nat)^ (s.take (lead s)).length≤10^8:=Nat.pow_le_pow_right (by omega) (by rw[hlen];omega)
  have h3:(10:Nat)^8=100000000:=by decide
  omega
def c104:Con:=aL 172 true fun args K=>match args with
 | [.str s]=>Br (uQ s) (Giv (aF (s.take (lead s))<100000000) (K (.tup [I (aF (s.take (lead s))),S (s.drop (lead s)),.val (.bool true)]))) (K (.tup [I 0,S [],.val (.bool false)]))
 | _=>False
theorem k104:aH Tryz.prog c104:=by
 refine aE rfl (enters_of Tryz.func172 (by kernel_rfl) rfl) ?_
 intro args K h
 simp only[c104] at h
 split at h
 ·rename_i s
  by_cases hf:uQ s
  ·exact ⟨_,(h.yes hf).go (jZ hf).2,aC (Γ:=[]) (by simp) Tryz.func172 (by simp[Tryz.ntmps172]) rfl (b104y s hf)⟩
  ·exact ⟨_,h.no hf,aC (Γ:=[]) (by simp) Tryz.func172 (by simp[Tryz.ntmps172]) rfl (b104n s hf)⟩
 ·exact h.elim
abbrev nvN (s:List UInt8):Nat:=aF ((digs s).take (lead (digs s)))
abbrev nvR (s:List UInt8):List UInt8:=(digs s).drop (lead (digs s))
abbrev nvD (s:List UInt8):Nat:=aF ((nvR s).tail.take (lead (nvR s).tail))
def nvOK (s:List UInt8):Prop:=uQ (digs s)∧¬(s.headD 0=45∧nvN s=0)∧(nvR s= []∨((nvR s).headD 0=47∧uQ (nvR s).tail∧(nvR s).tail.drop (lead (nvR s).tail)= []∧2≤nvD s∧Nat.gcd (nvN s) (nvD s)=1))
theorem aOj (s:List UInt8):s=(if s.headD 0=45 then [45] else [])++digs s:=by
 unfold digs
 by_cases h:s.headD 0=45
 ·rw[if_pos h,if_pos h]
  cases s with
  | nil=>simp at h
  | cons c r=>simp at h;rw[h];rfl
 ·rw[if_neg h,if_neg h];rfl
theorem aOk {p:Prop} [Decidable p] {n:Nat} (h:¬(p∧n=0)):itoa (sgP p n)=(if p then [45] else [])++decDigits n:=by
 unfold itoa sgP
 by_cases hp:p
 ·rw[if_pos hp,if_pos hp]
  have:n≠0:=fun e=>h ⟨hp,e⟩
  rw[if_pos (by omega)]
  show 45:: _=45:: _
  congr 2;omega
 ·rw[if_neg hp,if_neg hp,if_neg (by omega)]
  simp
theorem aSt {s:List UInt8} (h:nvOK s):∃q:Rat,s=numS q∧q.num=sgP (s.headD 0=45) (nvN s)∧(q.den:Int)=(if nvR s= [] then 1 else nvD s:Nat)∧nvN s<100000000∧q.den<100000000:=by
 obtain ⟨h1,h2,h3⟩:=h
 obtain ⟨a1,a2⟩:=jZ h1
 have hs:=aOj s
 have ht:digs s=decDigits (nvN s)++nvR s:=by
  rw[← a1];exact (List.take_append_drop _ _).symm
 have hi:=aOk h2
 have hs2:s=itoa (sgP (s.headD 0=45) (nvN s))++nvR s:=by
  rw[hi,List.append_assoc,← ht];exact hs
 rcases h3 with h3 | ⟨b1,b2,b3,b4,b5⟩
 ·refine ⟨⟨sgP (s.headD 0=45) (nvN s),1,by decide,by simp⟩,?_,rfl,by rw[if_pos h3],a2,by show (1:Nat)< _;decide⟩
  unfold numS
  rw[if_pos rfl]
  rw[h3,List.append_nil] at hs2
  exact hs2
 ·have hne:nvR s≠ []:=fun e=>by rw[e] at b1;simp at b1
  obtain ⟨c1,c2⟩:=jZ b2
  have hr:nvR s=47::decDigits (nvD s):=by
   cases hq:nvR s with
   | nil=>exact absurd hq hne
   | cons c r=>
    have hc:c=47:=by rw[hq] at b1;simpa using b1
    have ht2:(nvR s).tail=r:=by rw[hq];rfl
    rw[← ht2,hc]
    congr 1
    rw[← c1]
    have:=List.take_append_drop (lead (nvR s).tail) (nvR s).tail
    rw[b3,List.append_nil] at this
    exact this.symm
  refine ⟨⟨sgP (s.headD 0=45) (nvN s),nvD s,by omega,?_⟩,?_,rfl,by rw[if_neg hne],a2,c2⟩
  ·rw[mW];exact b5
  ·unfold numS
   rw[if_neg (by show ¬nvD s=1;omega)]
   show s=itoa _++47::decDigits (nvD s)
   rw[← hr];exact hs2
theorem cY {s:List UInt8} (h:nvOK s):s=numS (valQ s)∧(valQ s).num=sgP (s.headD 0=45) (nvN s)∧((valQ s).den:Int)=(if nvR s= [] then 1 else nvD s:Nat)∧(valQ s).num.natAbs<100000000∧(valQ s).den<100000000:=by
 obtain ⟨q,q1,q2,q3,q4,q5⟩:=aSt h
 have e:valQ s=q:=by rw[q1];exact bL q
 rw[e]
 exact ⟨q1,q2,q3,by rw[q2,mW];exact q4,q5⟩
theorem kA (s:List UInt8) (c:UInt8):aM s 0=c.toNat↔s.headD 0=c:=by
 unfold aM
 have e:s.getD 0 0=s.headD 0:=by cases s<;>rfl
 rw[e]
 constructor
 ·intro h
  exact UInt8.toNat.inj (by omega)
 ·intro h;rw[h]
theorem b68y (s:List UInt8) (h:nvOK s):body Tryz.prog [c104,c105] {} true Tryz.f115 [S s] (.tup [.agg [I (sgP (s.headD 0=45) (nvN s)),I (if nvR s= [] then 1 else nvD s:Nat)],.val (.bool true)]):=by
 obtain ⟨h1,h2,h3⟩:=h
 have hb:aM s 0=45↔s.headD 0=45:=kA s 45
 have hd8:=(jZ h1).2
 unfold sgP
 by_cases hn:s.headD 0=45
 ·rw[if_pos hn]
  have hb0:aM s 0=45:=hb.2 hn
  have hs0:¬s= []:=fun e=>by rw[e] at hn;simp at hn
  have hlen:(s.drop 1).length=s.length-1:=List.length_drop
  have hpos:=List.length_pos_iff.2 hs0
  have hdg:digs s=s.drop 1:=by unfold digs;rw[if_pos hn,List.drop_one]
  have hN:nvN s≠0:=fun e=>h2 ⟨hn,e⟩
  simp only[nvN,nvR,nvD,hdg] at*
  rcases h3 with h3 | ⟨d1,d2,d3,d4,d5⟩
  ·skip
   rw[if_pos h3]
   (repeat'((conv=>whnf);first|refine Zg fun _=>?_|refine Zn ?_|refine Z0 ?_|refine Z1 ?_|refine Zy ?_|refine Zm ?_|fail))
   (conv=>whnf)
   (repeat'(first|exact trivial|rfl|refine And.intro ?_ ?_|fail))
  ·skip
   have hR:¬List.drop (lead (List.drop 1 s)) (List.drop 1 s)= []:=fun e=>by rw[e] at d1;simp at d1
   have hRp:=List.length_pos_iff.2 hR
   have hb47:aM (List.drop (lead (List.drop 1 s)) (List.drop 1 s)) 0=47:=(kA _ 47).2 d1
   rw[← List.drop_one] at d2 d3 d4 d5
   have hg:((Int.gcd ((aF (List.take (lead (List.drop 1 s)) (List.drop 1 s)):Nat):Int) ((aF (List.take (lead (List.drop 1 (List.drop (lead (List.drop 1 s)) (List.drop 1 s)))) (List.drop 1 (List.drop (lead (List.drop 1 s)) (List.drop 1 s)))):Nat):Int):Nat):Int)=1:=by rw[Int.gcd_natCast_natCast,d5];rfl
   have hd9:=(jZ d2).2
   rw[if_neg hR,← List.drop_one]
   (repeat'((conv=>whnf);first|refine Zg fun _=>?_|refine Zn ?_|refine Z0 ?_|refine Z1 ?_|refine Zy ?_|refine Zm ?_|fail))
   (conv=>whnf)
   (repeat'(first|exact trivial|rfl|refine And.intro ?_ ?_|fail))
 ·rw[if_neg hn]
  have hb0:¬aM s 0=45:=fun e=>hn (hb.1 e)
  have hs0:¬s= []:=fun e=>by rw[e] at h1;exact absurd h1.1 (by decide)
  have hpos:=List.length_pos_iff.2 hs0
  have hdg:digs s=s:=by unfold digs;rw[if_neg hn]
  simp only[nvN,nvR,nvD,hdg] at*
  rcases h3 with h3 | ⟨d1,d2,d3,d4,d5⟩
  ·skip
   rw[if_pos h3]
   (repeat'((conv=>whnf);first|refine Zg fun _=>?_|refine Zn ?_|refine Z0 ?_|refine Zy ?_|refine Zm ?_|fail))
   (conv=>whnf)
   (repeat'(first|exact trivial|rfl|refine And.intro ?_ ?_|fail))
  ·skip
   have hR:¬List.drop (lead s) s= []:=fun e=>by rw[e] at d1;simp at d1
   have hRp:=List.length_pos_iff.2 hR
   have hb47:aM (List.drop (lead s) s) 0=47:=(kA _ 47).2 d1
   rw[← List.drop_one] at d2 d3 d4 d5
   have hg:((Int.gcd ((aF (List.take (lead s) s):Nat):Int) ((aF (List.take (lead (List.drop 1 (List.drop (lead s) s))) (List.drop 1 (List.drop (lead s) s))):Nat):Int):Nat):Int)=1:=by rw[Int.gcd_natCast_natCast,d5];rfl
   have hd9:=(jZ d2).2
   rw[if_neg hR,← List.drop_one]
   (repeat'((conv=>whnf);first|refine Zg fun _=>?_|refine Zn ?_|refine Z0 ?_|refine Z1 ?_|refine Zy ?_|refine Zm ?_|fail))
   (conv=>whnf)
   (repeat'(first|exact trivial|rfl|refine And.intro ?_ ?_|fail))
theorem b68n (s:List UInt8) (h:¬nvOK s):body Tryz.prog [c104,c105] {} true Tryz.f115 [S s] (.tup [.agg [I 0,I 0],.val (.bool false)]):=by
 have hb:aM s 0=45↔s.headD 0=45:=kA s 45
 unfold nvOK at h
 by_cases hn:s.headD 0=45
 ·have hb0:aM s 0=45:=hb.2 hn
  have hs0:¬s= []:=fun e=>by rw[e] at hn;simp at hn
  have hlen:(s.drop 1).length=s.length-1:=List.length_drop
  have hpos:=List.length_pos_iff.2 hs0
  have hdg:digs s=s.drop 1:=by unfold digs;rw[if_pos hn,List.drop_one]
  simp only[nvN,nvR,nvD,hdg,← List.drop_one] at h
  (repeat'((conv=>whnf);first|refine Zg fun _=>?_|refine Zn ?_|refine Z0 ?_|refine Z1 ?_|refine Zy ?_|fail))
  (refine Br.mk (fun _=>?_) (fun _=>?_))
  ·rename_i hk
   (repeat'((conv=>whnf);first|refine Zg fun _=>?_|refine Zy ?_|fail))
   (refine Br.mk (fun _=>?_) (fun _=>?_))
   ·rename_i hN
    skip
    (conv=>whnf)
    (repeat'(first|exact trivial|rfl|refine And.intro ?_ ?_|fail))
   ·rename_i hN
    skip
    (refine Br.mk (fun _=>?_) (fun _=>?_))
    ·rename_i hR
     have hRp:=List.length_pos_iff.2 hR
     (repeat'((conv=>whnf);first|refine Zg fun _=>?_|refine Zn ?_|refine Z0 ?_|fail))
     (refine Br.mk (fun _=>?_) (fun _=>?_))
     ·rename_i hc
      skip
      (conv=>whnf)
      (repeat'(first|exact trivial|rfl|refine And.intro ?_ ?_|fail))
     ·rename_i hc
      have hc:=(kA _ 47).1 (Classical.not_not.1 hc)
      (repeat'((conv=>whnf);first|refine Zn ?_|refine Z1 ?_|fail))
      (refine Br.mk (fun _=>?_) (fun _=>?_))
      ·rename_i hk2
       (repeat'((conv=>whnf);first|refine Zg fun _=>?_|fail))
       (refine Br.mk (fun _=>?_) (fun _=>?_))
       ·rename_i he
        skip
        (conv=>whnf)
        (repeat'(first|exact trivial|rfl|refine And.intro ?_ ?_|fail))
       ·rename_i he
        have he:=Classical.not_not.1 he
        skip
        (refine Br.mk (fun _=>?_) (fun _=>?_))
        ·rename_i h2d
         skip
         (conv=>whnf)
         (repeat'(first|exact trivial|rfl|refine And.intro ?_ ?_|fail))
        ·rename_i h2d
         (repeat'((conv=>whnf);first|refine Zn ?_|fail))
         (refine Br.mk (fun _=>?_) (fun _=>?_))
         ·rename_i hg
          skip
          (conv=>whnf)
          (repeat'(first|exact trivial|rfl|refine And.intro ?_ ?_|fail))
         ·rename_i hg
          exfalso
          have hg:=Classical.not_not.1 hg
          rw[Int.gcd_natCast_natCast] at hg
          exact h ⟨hk,(fun hx=>hN (by omega)),.inr ⟨hc,hk2,he,by omega,by omega⟩⟩
      ·rename_i hk2
       skip
       (conv=>whnf)
       (repeat'(first|exact trivial|rfl|refine And.intro ?_ ?_|fail))
    ·rename_i hR
     exfalso
     exact h ⟨hk,(fun hx=>hN (by omega)),.inl (Classical.not_not.1 hR)⟩
  ·rename_i hk
   skip
   (conv=>whnf)
   (repeat'(first|exact trivial|rfl|refine And.intro ?_ ?_|fail))
 ·have hb0:¬aM s 0=45:=fun e=>hn (hb.1 e)
  have hdg:digs s=s:=by unfold digs;rw[if_neg hn]
  simp only[nvN,nvR,nvD,hdg,← List.drop_one] at h
  by_cases hs0:s= []
  ·subst hs0
   have hk:¬uQ []:=fun h=>absurd h.1 (by decide)
   (repeat'((conv=>whnf);first|refine Zm ?_|fail))
   (conv=>whnf)
   (repeat'(first|exact trivial|rfl|refine And.intro ?_ ?_|fail))
  ·have hpos:=List.length_pos_iff.2 hs0
   (repeat'((conv=>whnf);first|refine Zg fun _=>?_|refine Zn ?_|refine Z0 ?_|refine Zy ?_|refine Zm ?_|fail))
   (refine Br.mk (fun _=>?_) (fun _=>?_))
   ·rename_i hk
    (repeat'((conv=>whnf);first|refine Zg fun _=>?_|refine Zm ?_|fail))
    skip
    (refine Br.mk (fun _=>?_) (fun _=>?_))
    ·rename_i hR
     have hRp:=List.length_pos_iff.2 hR
     (repeat'((conv=>whnf);first|refine Zg fun _=>?_|refine Zn ?_|refine Z0 ?_|fail))
     (refine Br.mk (fun _=>?_) (fun _=>?_))
     ·rename_i hc
      skip
      (conv=>whnf)
      (repeat'(first|exact trivial|rfl|refine And.intro ?_ ?_|fail))
     ·rename_i hc
      have hc:=(kA _ 47).1 (Classical.not_not.1 hc)
      (repeat'((conv=>whnf);first|refine Zn ?_|refine Z1 ?_|fail))
      (refine Br.mk (fun _=>?_) (fun _=>?_))
      ·rename_i hk2
       (repeat'((conv=>whnf);first|refine Zg fun _=>?_|fail))
       (refine Br.mk (fun _=>?_) (fun _=>?_))
       ·rename_i he
        skip
        (conv=>whnf)
        (repeat'(first|exact trivial|rfl|refine And.intro ?_ ?_|fail))
       ·rename_i he
        have he:=Classical.not_not.1 he
        skip
        (refine Br.mk (fun _=>?_) (fun _=>?_))
        ·rename_i h2d
         skip
         (conv=>whnf)
         (repeat'(first|exact trivial|rfl|refine And.intro ?_ ?_|fail))
        ·rename_i h2d
         (repeat'((conv=>whnf);first|refine Zn ?_|fail))
         (refine Br.mk (fun _=>?_) (fun _=>?_))
         ·rename_i hg
          skip
          (conv=>whnf)
          (repeat'(first|exact trivial|rfl|refine And.intro ?_ ?_|fail))
         ·rename_i hg
          exfalso
          have hg:=Classical.not_not.1 hg
          rw[Int.gcd_natCast_natCast] at hg
          exact h ⟨hk,(fun hx=>hn hx.1),.inr ⟨hc,hk2,he,by omega,by omega⟩⟩
      ·rename_i hk2
       skip
       (conv=>whnf)
       (repeat'(first|exact trivial|rfl|refine And.intro ?_ ?_|fail))
    ·rename_i hR
     exfalso
     exact h ⟨hk,(fun hx=>hn hx.1),.inl (Classical.not_not.1 hR)⟩
   ·rename_i hk
    skip
    (conv=>whnf)
    (repeat'(first|exact trivial|rfl|refine And.intro ?_ ?_|fail))
noncomputable instance (s:List UInt8):Decidable (nvOK s):=Classical.propDecidable _
def bY (s:List UInt8):Prop:=s=numS (valQ s)∧(valQ s).num.natAbs<100000000∧(valQ s).den<100000000
def c68:Con:=aL 115 true fun args K=>match args with
 | [.str s]=>Br (nvOK s) (Giv (bY s) (K (.tup [.agg [I (valQ s).num,I (valQ s).den],.val (.bool true)]))) (K (.tup [.agg [I 0,I 0],.val (.bool false)]))
 | _=>False
theorem k68:aH Tryz.prog c68:=by
 refine aE rfl (enters_of Tryz.func115 (by kernel_rfl) rfl) ?_
 intro args K h
 simp only[c68] at h
 split at h
 ·rename_i s
  by_cases hf:nvOK s
  ·obtain ⟨v1,v2,v3,v4,v5⟩:=cY hf
   refine ⟨_,(h.yes hf).go ⟨v1,v4,v5⟩,?_⟩
   rw[v2,v3]
   exact aC (Γ:=[c104,c105]) (by simp[k104,k105]) Tryz.func115 (by simp[Tryz.ntmps115]) rfl (b68y s hf)
  ·exact ⟨_,h.no hf,aC (Γ:=[c104,c105]) (by simp[k104,k105]) Tryz.func115 (by simp[Tryz.ntmps115]) rfl (b68n s hf)⟩
 ·exact h.elim
theorem eL (n:Nat):itoa (n:Int)=decDigits n:=by
 unfold itoa
 rw[if_neg (by omega),Int.toNat_natCast]
theorem aGg {g d k:Nat} (h:g≤d) (hd:(decDigits d).length≤k+1):(decDigits g).length≤k+1:=by
 have h2:=cH (decDigits d) (fY _)
 rw[bZ] at h2
 exact gT k g (Nat.lt_of_lt_of_le (Nat.lt_of_le_of_lt h h2) (Nat.pow_le_pow_right (by omega) hd))
theorem yL {s:List UInt8} (h:jL s):bot1 s=decDigits (denS s)∧1≤denS s∧(300<(bot1 s).length↔300<(botS s).tail.length):=by
 unfold bot1
 rcases h.2 with h | ⟨h1,h2⟩
 ·have hd:denS s=1:=by unfold denS;rw[if_pos h]
  rw[if_pos h,hd,h]
  exact ⟨(cF (show 1<10 by omega)).symm,Nat.le_refl _,by simp⟩
 ·have hb:botS s≠ []:=fun e=>by
   have hd:denS s=1:=by unfold denS;rw[if_pos e]
   omega
  rw[if_neg hb]
  exact ⟨h1,by omega,Iff.rfl⟩
theorem aGh {s:List UInt8} (h:s=numS (valQ s)) (h1:(digs (topS s)).length≤300) (h2:(botS s).tail.length≤300):chkQ s=0:=by
 have hf:jL s:=by rw[h];exact qP _
 have hg:(valI (topS s)).natAbs.gcd (denS s)=1:=by rw[h];exact aDi _
 unfold chkQ
 rw[if_pos hf,if_neg (by omega),if_pos hg]
theorem aA7 {n:Nat} (h:n<100000000):(decDigits n).length≤8:=gT 7 n (by simpa using h)
theorem iU {s:List UInt8} (h:bY s):chkQ s=0:=by
 obtain ⟨h1,h2,h3⟩:=h
 refine aGh h1 ?_ ?_
 ·rw[h1,fT,bU]
  have:=aA7 h2
  omega
 ·rw[h1,jJ]
  split
  ·simp
  ·have:=aA7 h3
   simp;omega
theorem tF {s:List UInt8} (h:s=numS (valQ s)):topS s=itoa (valQ s).num∧bot1 s=decDigits (valQ s).den:=by
 have hf:jL s:=by rw[h];exact qP _
 have e:=(yL hf).1
 have ed:denS s=(valQ s).den:=(congrArg denS h).trans (rW _)
 rw[ed] at e
 exact ⟨(congrArg topS h).trans (fT _),e⟩
theorem aDm {d:Nat} (h:(decDigits d).length≤300):form (decDigits d)∧chkI (decDigits d)=0∧valI (decDigits d)=d:=by
 rw[← eL]
 refine ⟨eS _,?_,aO _⟩
 rw[gX (eS _),if_neg]
 rw[bU]
 simpa using h
noncomputable def rdV (s:List UInt8):SV:=if chkQ s=0 then .tup [.agg [S (itoa (valQ s).num),S (decDigits (valQ s).den)],I 0] else .tup [.agg [S [],S []],I (chkQ s)]
theorem b46 (s:List UInt8):body Tryz.prog [c87,c68,c88,c89] {} true Tryz.f117 [S s] (rdV s):=by
 skip
 (refine Br.mk (fun _=>?_) (fun _=>?_))
 ·rename_i hf
  obtain ⟨hb1,hb2,hb3⟩:=yL hf
  skip
  (refine Br.mk (fun _=>?_) (fun _=>?_))
  ·rename_i hn
   refine Giv.mk fun hs=>?_
   have h0:=iU hs
   obtain ⟨p1,p2⟩:=tF hs.1
   unfold rdV
   rw[if_pos h0,← p1,← p2]
   skip
   (conv=>whnf)
   (repeat'(first|exact trivial|rfl|refine And.intro ?_ ?_|fail))
  ·rename_i hn
   have hq:chkQ s=if 300<(digs (topS s)).length∨300<(bot1 s).length then 4 else if (valI (topS s)).natAbs.gcd (denS s)=1 then 0 else 11:=by
    unfold chkQ
    rw[if_pos hf]
    simp only[hb3]
   have hnum:(valI (topS s)).natAbs.gcd (denS s)=1→topS s=itoa (valQ s).num∧bot1 s=decDigits (valQ s).den:=fun hg=>tF (aJx hf hg)
   (repeat'((conv=>whnf);first|refine Zg fun _=>?_|refine Zn ?_|fail))
   (refine Br.mk (fun _=>?_) (fun _=>?_))
   ·rename_i hl
    have h4:chkQ s=4:=by rw[hq,if_pos (.inl (by omega))]
    unfold rdV
    rw[if_neg (by omega),h4]
    skip
    (conv=>whnf)
    (repeat'(first|exact trivial|rfl|refine And.intro ?_ ?_|fail))
   ·rename_i hl
    (repeat'((conv=>whnf);first|refine Zg fun _=>?_|fail))
    (refine Br.mk (fun _=>?_) (fun _=>?_))
    ·rename_i hl2
     have h4:chkQ s=4:=by rw[hq,if_pos (.inr (by omega))]
     unfold rdV
     rw[if_neg (by omega),h4]
     skip
     (conv=>whnf)
     (repeat'(first|exact trivial|rfl|refine And.intro ?_ ?_|fail))
    ·rename_i hl2
     rw[if_neg (by omega)] at hq
     skip
     (refine Br.mk (fun _=>?_) (fun _=>?_))
     ·rename_i h1
      have hd:denS s=1:=by
       rw[hb1] at h1
       have:=congrArg aF h1
       rw[bZ] at this
       exact this
      have hg:(valI (topS s)).natAbs.gcd (denS s)=1:=by rw[hd];exact Nat.gcd_one_right _
      obtain ⟨p1,p2⟩:=hnum hg
      rw[if_pos hg] at hq
      unfold rdV
      rw[if_pos hq,← p1,← p2]
      skip
      (conv=>whnf)
      (repeat'(first|exact trivial|rfl|refine And.intro ?_ ?_|fail))
     ·rename_i h1
      obtain ⟨d1,d2,d3⟩:=aDm (d:=denS s) (by rw[← hb1];omega)
      have hct:chkI (topS s)=0:=by rw[gX hf.1,if_neg (by omega)]
      have hb:bE (topS s) (bot1 s) (resI (Int.gcd (valI (topS s)) (valI (bot1 s))))=(decDigits ((valI (topS s)).natAbs.gcd (denS s)),0):=by
       unfold bE chk2
       rw[hb1,hct,d2,d3,if_neg (by simp),show Int.gcd (valI (topS s)) (denS s:Int)=(valI (topS s)).natAbs.gcd (denS s) by unfold Int.gcd;simp]
       unfold resI lim
       rw[if_neg]
       ·rw[eL]
       ·have h3:(valI (topS s)).natAbs.gcd (denS s)≤denS s:=Nat.gcd_le_right _ (by omega)
        have h4:(decDigits (denS s)).length≤300:=by rw[← hb1];omega
        have h5:=aGg h3 (k:=299) h4
        simpa using h5
      have z1:=congrArg Prod.fst hb
      have z2:(bE (topS s) (bot1 s) (resI (Int.gcd (valI (topS s)) (valI (bot1 s))))).2=0:=congrArg Prod.snd hb
      (repeat'((conv=>whnf);first|refine Zm ?_|fail))
      (refine Br.mk (fun _=>?_) (fun _=>?_))
      ·rename_i hg
       rw[z1] at hg
       have hg1:(valI (topS s)).natAbs.gcd (denS s)≠1:=fun e=>hg (by rw[e];exact cF (show 1<10 by omega))
       rw[if_neg hg1] at hq
       unfold rdV
       rw[if_neg (by omega),hq]
       skip
       (conv=>whnf)
       (repeat'(first|exact trivial|rfl|refine And.intro ?_ ?_|fail))
      ·rename_i hg
       have hg:=Classical.not_not.1 hg
       rw[z1] at hg
       have hg1:(valI (topS s)).natAbs.gcd (denS s)=1:=by
        have:=congrArg aF hg
        rw[bZ] at this
        exact this
       obtain ⟨p1,p2⟩:=hnum hg1
       rw[if_pos hg1] at hq
       unfold rdV
       rw[if_pos hq,← p1,← p2]
       skip
       (conv=>whnf)
       (repeat'(first|exact trivial|rfl|refine And.intro ?_ ?_|fail))
 ·rename_i hf
  have h11:chkQ s=11:=by unfold chkQ;rw[if_neg hf]
  unfold rdV
  rw[if_neg (by omega),h11]
  skip
  (conv=>whnf)
  (repeat'(first|exact trivial|rfl|refine And.intro ?_ ?_|fail))
def aJ9 (s:List UInt8):Prop:=s=numS (valQ s)∧(decDigits (valQ s).num.natAbs).length≤300∧(decDigits (valQ s).den).length≤300
theorem cV {s:List UInt8} (h:chkQ s=0):aJ9 s:=by
 obtain ⟨h1,h2,h3⟩:=rX h
 have hf:jL s:=by rw[h1];exact qP _
 obtain ⟨p1,p2⟩:=tF h1
 refine ⟨h1,?_,?_⟩
 ·rw[p1,bU] at h2;exact h2
 ·have:=(yL hf).2.2
  rw[p2] at this
  omega
def c46:Con:=aL 117 true fun args K=>match args with
 | [.str s]=>Br (chkQ s=0) (Giv (aJ9 s) (K (.tup [.agg [S (itoa (valQ s).num),S (decDigits (valQ s).den)],I 0]))) (K (.tup [.agg [S [],S []],I (chkQ s)]))
 | _=>False
theorem k46:aH Tryz.prog c46:=by
 refine aE rfl (enters_of Tryz.func117 (by kernel_rfl) rfl) ?_
 intro args K h
 simp only[c46] at h
 split at h
 ·rename_i s
  have ht:=aC (r:=rdV s) (Γ:=[c87,c68,c88,c89]) (by simp[k87,k68,k88,k89]) Tryz.func117 (by simp[Tryz.ntmps117]) (by unfold rdV;split<;>rfl) (b46 s)
  unfold rdV at ht
  by_cases hf:chkQ s=0
  ·rw[if_pos hf] at ht
   exact ⟨_,(h.yes hf).go (cV hf),ht⟩
  ·rw[if_neg hf] at ht
   exact ⟨_,h.no hf,by
    cases hc:chkQ s with
    | _=>exact hc ▸ ht⟩
 ·exact h.elim
theorem aT {x:Int} (h:lim x=false):chkI (itoa x)=0:=by
 rw[gX (eS x),bU,if_neg]
 unfold lim at h
 simpa using h
theorem sD {x:Int} (h:chkI (itoa x)=0):lim x=false:=by
 rw[gX (eS x),bU] at h
 unfold lim
 split at h
 ·cases h
 ·rename_i hn
  exact decide_eq_false hn
theorem jQ (x:Int):lim (-x)=lim x:=by unfold lim;rw[Int.natAbs_neg]
theorem iV {x y:Int} (h:x.natAbs≤y.natAbs) (hy:lim y=false):lim x=false:=by
 unfold lim at hy ⊢
 have hy:(decDigits y.natAbs).length≤299+1:=by simpa using hy
 have:=aGg h hy
 simpa using this
theorem eE {x:Int} (h:lim x=false):(itoa x).length≤301:=by
 have h1:=(kM (itoa x)).2
 rw[bU] at h1
 unfold lim at h
 have h:(decDigits x.natAbs).length≤300:=by simpa using h
 omega
theorem yM {x y:Int} (hx:lim x=false) (hy:lim y=false) (h0:y≠0):bE (itoa x) (itoa y) (resI (Int.gcd (valI (itoa x)) (valI (itoa y))))=(itoa (Int.gcd x y),0):=by
 unfold bE chk2
 rw[aT hx,aT hy,if_neg (by simp),aO,aO]
 unfold resI
 have hg:lim ((Int.gcd x y:Nat):Int)=false:=by
  refine iV (y:=y) ?_ hy
  rw[Int.natAbs_natCast]
  exact Nat.gcd_le_right _ (by omega)
 rw[hg];rfl
theorem vO {x y:Int} (hx:lim x=false) (hy:lim y=false) (h0:0<y) (hd:y ∣ x):divI (itoa x) (itoa y)=(itoa (x/y),itoa 0,0):=by
 unfold divI chk2
 rw[aT hx,aT hy,if_neg (by simp),if_neg (fun e=>by
  have:=gU (e.trans itoa_zero.symm);omega),aO,aO]
 have e1:x.fdiv y=x/y:=Int.fdiv_eq_ediv_of_nonneg _ (by omega)
 have e2:x.fmod y=0:=Int.fmod_eq_zero_of_dvd hd
 unfold dvI
 rw[e1,e2]
 have l1:lim (x/y)=false:=iV (y:=x) (by
  obtain ⟨k,rfl⟩:=hd
  rw[Int.mul_ediv_cancel_left _ (by omega),Int.natAbs_mul]
  exact Nat.le_mul_of_pos_left _ (by omega)) hx
 have l2:lim 0=false:=by
  unfold lim
  rw[show (0:Int).natAbs=0 from rfl,cF (by omega)];rfl
 rw[l1,l2];rfl
theorem aDn {x y:Int} (h0:0<y):numS (mkRat x y.toNat)=if itoa (y/(Int.gcd x y:Nat))= [49] then itoa (x/(Int.gcd x y:Nat)) else itoa (x/(Int.gcd x y:Nat))++47::itoa (y/(Int.gcd x y:Nat)):=by
 obtain ⟨d,rfl⟩:=Int.eq_ofNat_of_zero_le (Int.le_of_lt h0)
 have hg:Int.gcd x (d:Int)=d.gcd x.natAbs:=by unfold Int.gcd;rw[Int.natAbs_natCast,Nat.gcd_comm]
 rw[Int.toNat_natCast,vM _ _ (by omega),hg,← Int.natCast_ediv,eL]
 have e1:decDigits (d/d.gcd x.natAbs)= [49]↔d/d.gcd x.natAbs=1:=by
  constructor
  ·intro h
   have:=congrArg aF h
   rw[bZ] at this
   exact this
  ·intro h;rw[h];exact cF (show 1<10 by omega)
 by_cases h:d/d.gcd x.natAbs=1
 ·rw[if_pos h,if_pos (e1.2 h)]
 ·rw[if_neg h,if_neg (fun hx=>h (e1.1 hx))]
theorem itoa_one:itoa 1= [49]:=by
 rw[show (1:Int)=((1:Nat):Int) from rfl,eL];exact cF (show 1<10 by omega)
theorem b52p (x y:Int) (hx:lim x=false) (hy:lim y=false) (h0:0<y):body Tryz.prog [c91,c92,c89,c69] {} true Tryz.f76 [S (itoa x),S (itoa y)] (.tup [S (numS (mkRat x y.toNat)),I 0]):=by
 have hh:=iP y
 have hneg:¬(itoa y).headD 0=45:=fun e=>by have:=hh.1 e;omega
 have hb:=yM hx hy (by omega)
 have z1:(bE (itoa x) (itoa y) (resI (Int.gcd (valI (itoa x)) (valI (itoa y))))).1=itoa (Int.gcd x y):=congrArg Prod.fst hb
 have z2:(bE (itoa x) (itoa y) (resI (Int.gcd (valI (itoa x)) (valI (itoa y))))).2=0:=congrArg Prod.snd hb
 have lx:=eE hx
 have ly:=eE hy
 have hm:=aDn (x:=x) h0
 obtain ⟨g,hg⟩:∃g,Int.gcd x y=g:=⟨_,rfl⟩
 have gx:(g:Int) ∣ x:=by rw[← hg];exact Int.gcd_dvd_left _ _
 have gy:(g:Int) ∣ y:=by rw[← hg];exact Int.gcd_dvd_right _ _
 have gp:0<g:=by rw[← hg];exact Int.gcd_pos_of_ne_zero_right _ (by omega)
 rw[hg] at z1 hm
 rw[hm]
 have lg:lim (g:Int)=false:=iV (y:=y) (by rw[Int.natAbs_natCast,← hg];exact Nat.gcd_le_right _ (by omega)) hy
 have dx:=vO hx lg (by omega) gx
 have dy:=vO hy lg (by omega) gy
 have q1:(divI (itoa x) (itoa g)).1=itoa (x/g):=by rw[dx]
 have q2:(divI (itoa y) (itoa g)).1=itoa (y/g):=by rw[dy]
 (repeat'((conv=>whnf);first|refine Zn ?_|refine Zm ?_|fail))
 (refine Br.mk (fun _=>?_) (fun _=>?_))
 ·rename_i h1
  rw[z1,← q1,← q2]
  have l1:lim (x/g)=false:=iV (y:=x) (by
   obtain ⟨k,rfl⟩:=gx
   rw[Int.mul_ediv_cancel_left _ (by omega),Int.natAbs_mul]
   exact Nat.le_mul_of_pos_left _ (by omega)) hx
  have l2:lim (y/g)=false:=iV (y:=y) (by
   obtain ⟨k,rfl⟩:=gy
   rw[Int.mul_ediv_cancel_left _ (by omega),Int.natAbs_mul]
   exact Nat.le_mul_of_pos_left _ (by omega)) hy
  have m1:(divI (itoa x) (itoa g)).1.length≤301:=by rw[q1];exact eE l1
  have m2:(divI (itoa y) (itoa g)).1.length≤301:=by rw[q2];exact eE l2
  skip
  (refine Br.mk (fun _=>?_) (fun _=>?_))
  ·rename_i h2
   rw[if_pos h2]
   skip
   (conv=>whnf)
   (repeat'(first|exact trivial|rfl|refine And.intro ?_ ?_|fail))
  ·rename_i h2
   rw[if_neg h2]
   (repeat'((conv=>whnf);first|refine Zn ?_|fail))
   (conv=>whnf)
   (repeat'(first|exact trivial|rfl|refine And.intro ?_ ?_|fail))
   exact List.append_assoc _ [47] _
 ·rename_i h1
  have h1:=Classical.not_not.1 h1
  rw[z1] at h1
  have hg1:(g:Int)=1:=gU (h1.trans itoa_one.symm)
  rw[hg1,Int.ediv_one,Int.ediv_one]
  skip
  (refine Br.mk (fun _=>?_) (fun _=>?_))
  ·rename_i h2
   rw[if_pos h2]
   skip
   (conv=>whnf)
   (repeat'(first|exact trivial|rfl|refine And.intro ?_ ?_|fail))
  ·rename_i h2
   rw[if_neg h2]
   (repeat'((conv=>whnf);first|refine Zn ?_|fail))
   (conv=>whnf)
   (repeat'(first|exact trivial|rfl|refine And.intro ?_ ?_|fail))
   exact List.append_assoc _ [47] _
theorem b52n (x0 y0:Int) (hx0:lim x0=false) (hy0:lim y0=false) (h00:y0<0):body Tryz.prog [c91,c92,c89,c69] {} true Tryz.f76 [S (itoa x0),S (itoa y0)] (.tup [S (numS (mkRat (-x0) (-y0).toNat)),I 0]):=by
 have hh:=iP y0
 have hneg:(itoa y0).headD 0=45:=hh.2 h00
 have lx0:=eE hx0
 have ly0:=eE hy0
 obtain ⟨x,ex⟩:∃x, -x0=x:=⟨_,rfl⟩
 obtain ⟨y,ey⟩:∃y, -y0=y:=⟨_,rfl⟩
 have hx:lim x=false:=by rw[← ex,jQ];exact hx0
 have hy:lim y=false:=by rw[← ey,jQ];exact hy0
 have h0:0<y:=by omega
 rw[ex,ey]
 have hb:=yM hx hy (by omega)
 have z1:(bE (itoa x) (itoa y) (resI (Int.gcd (valI (itoa x)) (valI (itoa y))))).1=itoa (Int.gcd x y):=congrArg Prod.fst hb
 have z2:(bE (itoa x) (itoa y) (resI (Int.gcd (valI (itoa x)) (valI (itoa y))))).2=0:=congrArg Prod.snd hb
 have lx:=eE hx
 have ly:=eE hy
 have hm:=aDn (x:=x) h0
 obtain ⟨g,hg⟩:∃g,Int.gcd x y=g:=⟨_,rfl⟩
 have gx:(g:Int) ∣ x:=by rw[← hg];exact Int.gcd_dvd_left _ _
 have gy:(g:Int) ∣ y:=by rw[← hg];exact Int.gcd_dvd_right _ _
 have gp:0<g:=by rw[← hg];exact Int.gcd_pos_of_ne_zero_right _ (by omega)
 rw[hg] at z1 hm
 rw[hm]
 have lg:lim (g:Int)=false:=iV (y:=y) (by rw[Int.natAbs_natCast,← hg];exact Nat.gcd_le_right _ (by omega)) hy
 have dx:=vO hx lg (by omega) gx
 have dy:=vO hy lg (by omega) gy
 have q1:(divI (itoa x) (itoa g)).1=itoa (x/g):=by rw[dx]
 have q2:(divI (itoa y) (itoa g)).1=itoa (y/g):=by rw[dy]
 (repeat'((conv=>whnf);first|refine Zn ?_|refine Zy ?_|fail))
 refine Need.mk ⟨eS _,by omega⟩ ?_
 rw[aO,ex]
 skip
 refine Need.mk ⟨eS _,by omega⟩ ?_
 rw[aO,ey]
 (repeat'((conv=>whnf);first|refine Zm ?_|fail))
 (refine Br.mk (fun _=>?_) (fun _=>?_))
 ·rename_i h1
  rw[z1,← q1,← q2]
  have l1:lim (x/g)=false:=iV (y:=x) (by
   obtain ⟨k,rfl⟩:=gx
   rw[Int.mul_ediv_cancel_left _ (by omega),Int.natAbs_mul]
   exact Nat.le_mul_of_pos_left _ (by omega)) hx
  have l2:lim (y/g)=false:=iV (y:=y) (by
   obtain ⟨k,rfl⟩:=gy
   rw[Int.mul_ediv_cancel_left _ (by omega),Int.natAbs_mul]
   exact Nat.le_mul_of_pos_left _ (by omega)) hy
  have m1:(divI (itoa x) (itoa g)).1.length≤301:=by rw[q1];exact eE l1
  have m2:(divI (itoa y) (itoa g)).1.length≤301:=by rw[q2];exact eE l2
  skip
  (refine Br.mk (fun _=>?_) (fun _=>?_))
  ·rename_i h2
   rw[if_pos h2]
   skip
   (conv=>whnf)
   (repeat'(first|exact trivial|rfl|refine And.intro ?_ ?_|fail))
  ·rename_i h2
   rw[if_neg h2]
   (repeat'((conv=>whnf);first|refine Zn ?_|fail))
   (conv=>whnf)
   (repeat'(first|exact trivial|rfl|refine And.intro ?_ ?_|fail))
   exact List.append_assoc _ [47] _
 ·rename_i h1
  have h1:=Classical.not_not.1 h1
  rw[z1] at h1
  have hg1:(g:Int)=1:=gU (h1.trans itoa_one.symm)
  rw[hg1,Int.ediv_one,Int.ediv_one]
  skip
  (refine Br.mk (fun _=>?_) (fun _=>?_))
  ·rename_i h2
   rw[if_pos h2]
   skip
   (conv=>whnf)
   (repeat'(first|exact trivial|rfl|refine And.intro ?_ ?_|fail))
  ·rename_i h2
   rw[if_neg h2]
   (repeat'((conv=>whnf);first|refine Zn ?_|fail))
   (conv=>whnf)
   (repeat'(first|exact trivial|rfl|refine And.intro ?_ ?_|fail))
   exact List.append_assoc _ [47] _
noncomputable def numQ (a b:List UInt8):List UInt8:=numS (Rat.divInt (valI a) (valI b))
def c52:Con:=aL 76 true fun args K=>match args with
 | [.str a,.str b]=>Need (chkI a=0∧chkI b=0∧valI b≠0) (K (.tup [S (numQ a b),I 0]))
 | _=>False
theorem k52:aH Tryz.prog c52:=by
 refine aE rfl (enters_of Tryz.func76 (by kernel_rfl) rfl) ?_
 intro args K h
 simp only[c52] at h
 split at h
 ·rename_i a b
  obtain ⟨⟨h1,h2,h3⟩,h⟩:=h
  refine ⟨_,h,?_⟩
  have ea:=pD (bH h1).1
  have eb:=pD (bH h2).1
  have la:lim (valI a)=false:=sD (by rw[← ea];exact h1)
  have lb:lim (valI b)=false:=sD (by rw[← eb];exact h2)
  unfold numQ
  rcases Int.lt_or_gt_of_ne h3 with hn | hp
  ·have:=aC (Γ:=[c91,c92,c89,c69]) (by simp[k91,k92,k89,k69]) Tryz.func76 (by simp[Tryz.ntmps76]) rfl (b52n (valI a) (valI b) la lb hn)
   rw[← ea,← eb] at this
   rw[qQ _ _ hn]
   exact this
  ·have:=aC (Γ:=[c91,c92,c89,c69]) (by simp[k91,k92,k89,k69]) Tryz.func76 (by simp[Tryz.ntmps76]) rfl (b52p (valI a) (valI b) la lb hp)
   rw[← ea,← eb] at this
   rw[eD _ _ hp]
   exact this
 ·exact h.elim
theorem sE {x:Int} (h:x.natAbs<1000000000000000000):(itoa x).length≤19:=by
 unfold itoa
 have h1:=gT 17 x.natAbs (by simpa using h)
 split
 ·simp only[List.length_cons];omega
 ·rename_i hx
  rw[show x.toNat=x.natAbs by omega];omega
theorem b90p (x y:Int) (hx:x.natAbs<1000000000000000000) (hy:y.natAbs<1000000000000000000) (h0:0<y):body Tryz.prog [c105,c61] {} true Tryz.f134 [.agg [I x,I y]] (S (numS (mkRat x y.toNat))):=by
 have hm:=aDn (x:=x) h0
 obtain ⟨g,hg⟩:∃g,Int.gcd x y=g:=⟨_,rfl⟩
 have gx:(g:Int) ∣ x:=by rw[← hg];exact Int.gcd_dvd_left _ _
 have gy:(g:Int) ∣ y:=by rw[← hg];exact Int.gcd_dvd_right _ _
 have gp:0<g:=by rw[← hg];exact Int.gcd_pos_of_ne_zero_right _ (by omega)
 have hgm:Int.gcd (max x (-x)) y=g:=by
  rw[← hg];unfold Int.gcd
  rw[show (max x (-x)).natAbs=x.natAbs by omega]
 rw[hg] at hm
 rw[hm]
 have t1:x.tdiv g=x/g:=Int.tdiv_eq_ediv_of_dvd gx
 have t2:y.tdiv g=y/g:=Int.tdiv_eq_ediv_of_dvd gy
 have b1:(x/g).natAbs≤x.natAbs:=by
  obtain ⟨k,rfl⟩:=gx
  rw[Int.mul_ediv_cancel_left _ (by omega),Int.natAbs_mul]
  exact Nat.le_mul_of_pos_left _ (by omega)
 have b2:(y/g).natAbs≤y.natAbs:=by
  obtain ⟨k,rfl⟩:=gy
  rw[Int.mul_ediv_cancel_left _ (by omega),Int.natAbs_mul]
  exact Nat.le_mul_of_pos_left _ (by omega)
 have m1:=sE (x:=x/g) (by omega)
 have m2:=sE (x:=y/g) (by omega)
 (repeat'((conv=>whnf);first|refine Zb ?_|refine Zn ?_|(apply Pin.mk;apply Exists.intro)|apply Pinned.mk rfl rfl|refine Zm ?_|fail))
 rw[hgm]
 (repeat'((conv=>whnf);first|refine Za ?_|refine Zn ?_|(apply Pin.mk;apply Exists.intro)|apply Pinned.mk rfl rfl|fail))
 rw[← t1]
 rw[← t1] at m1
 (refine Br.mk (fun _=>?_) (fun _=>?_))
 ·rename_i h1
  rw[if_pos (by rw[h1];exact itoa_one)]
  skip
  (conv=>whnf)
  skip
 ·rename_i h1
  rw[if_neg (fun e=>h1 (gU (e.trans itoa_one.symm)))]
  (repeat'((conv=>whnf);first|refine Zn ?_|fail))
  (conv=>whnf)
  skip
  exact List.append_assoc _ [47] _
theorem b90n (x0 y0:Int) (hx0:x0.natAbs<1000000000000000000) (hy0:y0.natAbs<1000000000000000000) (h00:y0<0):body Tryz.prog [c105,c61] {} true Tryz.f134 [.agg [I x0,I y0]] (S (numS (mkRat (-x0) (-y0).toNat))):=by
 obtain ⟨x,ex⟩:∃x, -x0=x:=⟨_,rfl⟩
 obtain ⟨y,ey⟩:∃y, -y0=y:=⟨_,rfl⟩
 have hx:x.natAbs<1000000000000000000:=by omega
 have hy:y.natAbs<1000000000000000000:=by omega
 have h0:0<y:=by omega
 rw[ex,ey]
 have hm:=aDn (x:=x) h0
 obtain ⟨g,hg⟩:∃g,Int.gcd x y=g:=⟨_,rfl⟩
 have gx:(g:Int) ∣ x:=by rw[← hg];exact Int.gcd_dvd_left _ _
 have gy:(g:Int) ∣ y:=by rw[← hg];exact Int.gcd_dvd_right _ _
 have gp:0<g:=by rw[← hg];exact Int.gcd_pos_of_ne_zero_right _ (by omega)
 have hgm:Int.gcd (max x (-x)) y=g:=by
  rw[← hg];unfold Int.gcd
  rw[show (max x (-x)).natAbs=x.natAbs by omega]
 rw[hg] at hm
 rw[hm]
 have t1:x.tdiv g=x/g:=Int.tdiv_eq_ediv_of_dvd gx
 have t2:y.tdiv g=y/g:=Int.tdiv_eq_ediv_of_dvd gy
 have b1:(x/g).natAbs≤x.natAbs:=by
  obtain ⟨k,rfl⟩:=gx
  rw[Int.mul_ediv_cancel_left _ (by omega),Int.natAbs_mul]
  exact Nat.le_mul_of_pos_left _ (by omega)
 have b2:(y/g).natAbs≤y.natAbs:=by
  obtain ⟨k,rfl⟩:=gy
  rw[Int.mul_ediv_cancel_left _ (by omega),Int.natAbs_mul]
  exact Nat.le_mul_of_pos_left _ (by omega)
 have m1:=sE (x:=x/g) (by omega)
 have m2:=sE (x:=y/g) (by omega)
 (repeat'((conv=>whnf);first|refine Zn ?_|(apply Pin.mk;apply Exists.intro)|apply Pinned.mk rfl rfl|refine .r ?_|refine Zy ?_|fail))
 rw[ex,ey,hgm]
 (repeat'((conv=>whnf);first|refine Za ?_|refine Zn ?_|(apply Pin.mk;apply Exists.intro)|apply Pinned.mk rfl rfl|fail))
 rw[← t1]
 rw[← t1] at m1
 (refine Br.mk (fun _=>?_) (fun _=>?_))
 ·rename_i h1
  rw[if_pos (by rw[h1];exact itoa_one)]
  skip
  (conv=>whnf)
  skip
 ·rename_i h1
  rw[if_neg (fun e=>h1 (gU (e.trans itoa_one.symm)))]
  (repeat'((conv=>whnf);first|refine Zn ?_|fail))
  (conv=>whnf)
  skip
  exact List.append_assoc _ [47] _
def c90:Con:=aL 134 true fun args K=>match args with
 | [.agg [.val (.int .i64 x),.val (.int .i64 y)]]=>Need (x.natAbs<1000000000000000000∧y.natAbs<1000000000000000000∧y≠0) (K (S (numS (Rat.divInt x y))))
 | _=>False
theorem k90:aH Tryz.prog c90:=by
 refine aE rfl (enters_of Tryz.func134 (by kernel_rfl) rfl) ?_
 intro args K h
 simp only[c90] at h
 split at h
 ·rename_i x y
  obtain ⟨⟨h1,h2,h3⟩,h⟩:=h
  refine ⟨_,h,?_⟩
  rcases Int.lt_or_gt_of_ne h3 with hn | hp
  ·rw[qQ _ _ hn]
   exact aC (Γ:=[c105,c61]) (by simp[k105,k61]) Tryz.func134 (by simp[Tryz.ntmps134]) rfl (b90n x y h1 h2 hn)
  ·rw[eD _ _ hp]
   exact aC (Γ:=[c105,c61]) (by simp[k105,k61]) Tryz.func134 (by simp[Tryz.ntmps134]) rfl (b90p x y h1 h2 hp)
 ·exact h.elim
theorem mul8 {a b:Int} (ha:a.natAbs<100000000) (hb:b.natAbs<100000000): -10000000000000000<a*b∧a*b<10000000000000000:=by
 have h:=Nat.mul_lt_mul'' ha hb
 rw[← Int.natAbs_mul] at h
 omega
abbrev n8 (a b c d:Int):Prop:=a.natAbs<100000000∧b.natAbs<100000000∧c.natAbs<100000000∧d.natAbs<100000000
theorem b53 (a b c d:Int) (h:n8 a b c d):body Tryz.prog [] {} true Tryz.f155 [.agg [I a,I b],.agg [I c,I d]] (.agg [I (a*d+c*b),I (b*d)]):=by
 obtain ⟨h1,h2,h3,h4⟩:=h
 have m1:=mul8 h1 h4
 have m2:=mul8 h3 h2
 have m3:=mul8 h2 h4
 have m4:=mul8 h1 h3
 have m5:=mul8 h2 h3
 (repeat'((conv=>whnf);first|refine Zn ?_|fail))
 (conv=>whnf)
 (repeat'(first|exact trivial|rfl|refine And.intro ?_ ?_|fail))
def c53:Con:=aL 155 true fun args K=>match args with | [.agg [.val (.int .i64 a),.val (.int .i64 b)],.agg [.val (.int .i64 c),.val (.int .i64 d)]]=>Need (n8 a b c d) (K (.agg [I (a*d+c*b),I (b*d)])) | _=>False
theorem k53:aH Tryz.prog c53:=by
 refine aE rfl (enters_of Tryz.func155 (by kernel_rfl) rfl) ?_
 intro args K h
 simp only[c53] at h
 split at h
 ·rename_i a b c d;exact ⟨_,h.go,aC (Γ:=[]) (by simp) Tryz.func155 (by simp[Tryz.ntmps155]) rfl (b53 a b c d h.ok)⟩
 ·exact h.elim
theorem b59 (a b c d:Int) (h:n8 a b c d):body Tryz.prog [] {} true Tryz.f72 [.agg [I a,I b],.agg [I c,I d]] (.agg [I (a*d-c*b),I (b*d)]):=by
 obtain ⟨h1,h2,h3,h4⟩:=h
 have m1:=mul8 h1 h4
 have m2:=mul8 h3 h2
 have m3:=mul8 h2 h4
 have m4:=mul8 h1 h3
 have m5:=mul8 h2 h3
 (repeat'((conv=>whnf);first|refine Zn ?_|fail))
 (conv=>whnf)
 (repeat'(first|exact trivial|rfl|refine And.intro ?_ ?_|fail))
def c59:Con:=aL 72 true fun args K=>match args with | [.agg [.val (.int .i64 a),.val (.int .i64 b)],.agg [.val (.int .i64 c),.val (.int .i64 d)]]=>Need (n8 a b c d) (K (.agg [I (a*d-c*b),I (b*d)])) | _=>False
theorem k59:aH Tryz.prog c59:=by
 refine aE rfl (enters_of Tryz.func72 (by kernel_rfl) rfl) ?_
 intro args K h
 simp only[c59] at h
 split at h
 ·rename_i a b c d;exact ⟨_,h.go,aC (Γ:=[]) (by simp) Tryz.func72 (by simp[Tryz.ntmps72]) rfl (b59 a b c d h.ok)⟩
 ·exact h.elim
theorem b56 (a b c d:Int) (h:n8 a b c d):body Tryz.prog [] {} true Tryz.f157 [.agg [I a,I b],.agg [I c,I d]] (.agg [I (a*c),I (b*d)]):=by
 obtain ⟨h1,h2,h3,h4⟩:=h
 have m1:=mul8 h1 h4
 have m2:=mul8 h3 h2
 have m3:=mul8 h2 h4
 have m4:=mul8 h1 h3
 have m5:=mul8 h2 h3
 (repeat'((conv=>whnf);first|refine Zn ?_|fail))
 (conv=>whnf)
 (repeat'(first|exact trivial|rfl|refine And.intro ?_ ?_|fail))
def c56:Con:=aL 157 true fun args K=>match args with | [.agg [.val (.int .i64 a),.val (.int .i64 b)],.agg [.val (.int .i64 c),.val (.int .i64 d)]]=>Need (n8 a b c d) (K (.agg [I (a*c),I (b*d)])) | _=>False
theorem k56:aH Tryz.prog c56:=by
 refine aE rfl (enters_of Tryz.func157 (by kernel_rfl) rfl) ?_
 intro args K h
 simp only[c56] at h
 split at h
 ·rename_i a b c d;exact ⟨_,h.go,aC (Γ:=[]) (by simp) Tryz.func157 (by simp[Tryz.ntmps157]) rfl (b56 a b c d h.ok)⟩
 ·exact h.elim
theorem b48 (a b c d:Int) (h:n8 a b c d):body Tryz.prog [] {} true Tryz.f77 [.agg [I a,I b],.agg [I c,I d]] (.agg [I (a*d),I (b*c)]):=by
 obtain ⟨h1,h2,h3,h4⟩:=h
 have m1:=mul8 h1 h4
 have m2:=mul8 h3 h2
 have m3:=mul8 h2 h4
 have m4:=mul8 h1 h3
 have m5:=mul8 h2 h3
 (repeat'((conv=>whnf);first|refine Zn ?_|fail))
 (conv=>whnf)
 (repeat'(first|exact trivial|rfl|refine And.intro ?_ ?_|fail))
def c48:Con:=aL 77 true fun args K=>match args with | [.agg [.val (.int .i64 a),.val (.int .i64 b)],.agg [.val (.int .i64 c),.val (.int .i64 d)]]=>Need (n8 a b c d) (K (.agg [I (a*d),I (b*c)])) | _=>False
theorem k48:aH Tryz.prog c48:=by
 refine aE rfl (enters_of Tryz.func77 (by kernel_rfl) rfl) ?_
 intro args K h
 simp only[c48] at h
 split at h
 ·rename_i a b c d;exact ⟨_,h.go,aC (Γ:=[]) (by simp) Tryz.func77 (by simp[Tryz.ntmps77]) rfl (b48 a b c d h.ok)⟩
 ·exact h.elim
theorem bP {s:List UInt8} (h:bY s):(valQ s).num.natAbs<100000000∧((valQ s).den:Int).natAbs<100000000∧0<((valQ s).den:Int):=by
 have:=(valQ s).den_pos
 exact ⟨h.2.1,by rw[Int.natAbs_natCast];exact h.2.2,by omega⟩
theorem aA8 (p q:Rat):Rat.divInt (p.num*q.den+q.num*p.den) (p.den*q.den)=p+q:=by
 rw[sZ,eD _ _ (Int.mul_pos (by have:=p.den_pos;omega) (by have:=q.den_pos;omega))];rfl
theorem aA9 (p q:Rat):Rat.divInt (p.num*q.den-q.num*p.den) (p.den*q.den)=p-q:=by
 rw[pE,eD _ _ (Int.mul_pos (by have:=p.den_pos;omega) (by have:=q.den_pos;omega))];rfl
theorem aBa (p q:Rat):Rat.divInt (p.num*q.num) (p.den*q.den)=p*q:=by
 rw[pF,eD _ _ (Int.mul_pos (by have:=p.den_pos;omega) (by have:=q.den_pos;omega))];rfl
theorem aBb (p q:Rat) (hq:q≠0):Rat.divInt (p.num*q.den) (p.den*q.num)=p/q:=(tA p q hq).symm
def nv2 (a b:List UInt8):Prop:=nvOK a∧nvOK b
theorem aQu (a b:List UInt8) (h:nv2 a b) (ha:bY a) (hb:bY b):body Tryz.prog [c68,c53,c90] {} true Tryz.f71 [S a,S b,.clo 155 [] []] (.tup [S (numS (valQ a+valQ b)),.val (.bool true)]):=by
 obtain ⟨na,nb⟩:=h
 obtain ⟨p1,p2,p3⟩:=bP ha
 obtain ⟨q1,q2,q3⟩:=bP hb
 have m1:=mul8 p1 q2
 have m2:=mul8 q1 p2
 have m4:=mul8 p1 q1
 have m3:=mul8 p2 q2
 rw[← aA8 (valQ a) (valQ b)]
 (repeat'((conv=>whnf);first|refine Zg fun _=>?_|refine Zn ?_|refine Zy ?_|fail))
 (conv=>whnf)
 (repeat'(first|exact trivial|rfl|refine And.intro ?_ ?_|fail))
theorem aQv (a b:List UInt8) (h:¬nv2 a b):body Tryz.prog [c68,c53,c90] {} true Tryz.f71 [S a,S b,.clo 155 [] []] (.tup [S [],.val (.bool false)]):=by
 by_cases na:nvOK a
 ·have nb:¬nvOK b:=fun e=>h ⟨na,e⟩
  (repeat'((conv=>whnf);first|refine Zg fun _=>?_|refine Zy ?_|refine Zm ?_|fail))
  (conv=>whnf)
  (repeat'(first|exact trivial|rfl|refine And.intro ?_ ?_|fail))
 ·(repeat'((conv=>whnf);first|refine Zm ?_|fail))
  (conv=>whnf)
  (repeat'(first|exact trivial|rfl|refine And.intro ?_ ?_|fail))
def q53:Con:=aL 71 true fun args K=>match args with
 | [.str a,.str b,.clo 155 [] []]=>Br (nv2 a b) (Giv (bY a∧bY b) (K (.tup [S (numS (valQ a+valQ b)),.val (.bool true)]))) (K (.tup [S [],.val (.bool false)]))
 | _=>False
theorem kq53:aH Tryz.prog q53:=by
 refine aE rfl (enters_of Tryz.func71 (by kernel_rfl) rfl) ?_
 intro args K h
 simp only[q53] at h
 split at h
 ·rename_i a b
  skip
  by_cases hf:nv2 a b
  ·obtain ⟨v1,_,_,v2,v3⟩:=cY hf.1
   obtain ⟨w1,_,_,w2,w3⟩:=cY hf.2
   exact ⟨_,(h.yes hf).go ⟨⟨v1,v2,v3⟩,w1,w2,w3⟩,aC (Γ:=[c68,c53,c90]) (by simp[k68,k53,k90]) Tryz.func71 (by simp[Tryz.ntmps71]) rfl (aQu a b hf ⟨v1,v2,v3⟩ ⟨w1,w2,w3⟩)⟩
  ·exact ⟨_,h.no hf,aC (Γ:=[c68,c53,c90]) (by simp[k68,k53,k90]) Tryz.func71 (by simp[Tryz.ntmps71]) rfl (aQv a b hf)⟩
 ·exact h.elim
theorem aQw (a b:List UInt8) (h:nv2 a b) (ha:bY a) (hb:bY b):body Tryz.prog [c68,c59,c90] {} true Tryz.f71 [S a,S b,.clo 72 [] []] (.tup [S (numS (valQ a-valQ b)),.val (.bool true)]):=by
 obtain ⟨na,nb⟩:=h
 obtain ⟨p1,p2,p3⟩:=bP ha
 obtain ⟨q1,q2,q3⟩:=bP hb
 have m1:=mul8 p1 q2
 have m2:=mul8 q1 p2
 have m4:=mul8 p1 q1
 have m3:=mul8 p2 q2
 rw[← aA9 (valQ a) (valQ b)]
 (repeat'((conv=>whnf);first|refine Zg fun _=>?_|refine Zn ?_|refine Zy ?_|fail))
 (conv=>whnf)
 (repeat'(first|exact trivial|rfl|refine And.intro ?_ ?_|fail))
theorem aQx (a b:List UInt8) (h:¬nv2 a b):body Tryz.prog [c68,c59,c90] {} true Tryz.f71 [S a,S b,.clo 72 [] []] (.tup [S [],.val (.bool false)]):=by
 by_cases na:nvOK a
 ·have nb:¬nvOK b:=fun e=>h ⟨na,e⟩
  (repeat'((conv=>whnf);first|refine Zg fun _=>?_|refine Zy ?_|refine Zm ?_|fail))
  (conv=>whnf)
  (repeat'(first|exact trivial|rfl|refine And.intro ?_ ?_|fail))
 ·(repeat'((conv=>whnf);first|refine Zm ?_|fail))
  (conv=>whnf)
  (repeat'(first|exact trivial|rfl|refine And.intro ?_ ?_|fail))
def q59:Con:=aL 71 true fun args K=>match args with
 | [.str a,.str b,.clo 72 [] []]=>Br (nv2 a b) (Giv (bY a∧bY b) (K (.tup [S (numS (valQ a-valQ b)),.val (.bool true)]))) (K (.tup [S [],.val (.bool false)]))
 | _=>False
theorem kq59:aH Tryz.prog q59:=by
 refine aE rfl (enters_of Tryz.func71 (by kernel_rfl) rfl) ?_
 intro args K h
 simp only[q59] at h
 split at h
 ·rename_i a b
  skip
  by_cases hf:nv2 a b
  ·obtain ⟨v1,_,_,v2,v3⟩:=cY hf.1
   obtain ⟨w1,_,_,w2,w3⟩:=cY hf.2
   exact ⟨_,(h.yes hf).go ⟨⟨v1,v2,v3⟩,w1,w2,w3⟩,aC (Γ:=[c68,c59,c90]) (by simp[k68,k59,k90]) Tryz.func71 (by simp[Tryz.ntmps71]) rfl (aQw a b hf ⟨v1,v2,v3⟩ ⟨w1,w2,w3⟩)⟩
  ·exact ⟨_,h.no hf,aC (Γ:=[c68,c59,c90]) (by simp[k68,k59,k90]) Tryz.func71 (by simp[Tryz.ntmps71]) rfl (aQx a b hf)⟩
 ·exact h.elim
theorem aQy (a b:List UInt8) (h:nv2 a b) (ha:bY a) (hb:bY b):body Tryz.prog [c68,c56,c90] {} true Tryz.f71 [S a,S b,.clo 157 [] []] (.tup [S (numS (valQ a*valQ b)),.val (.bool true)]):=by
 obtain ⟨na,nb⟩:=h
 obtain ⟨p1,p2,p3⟩:=bP ha
 obtain ⟨q1,q2,q3⟩:=bP hb
 have m1:=mul8 p1 q2
 have m2:=mul8 q1 p2
 have m4:=mul8 p1 q1
 have m3:=mul8 p2 q2
 rw[← aBa (valQ a) (valQ b)]
 (repeat'((conv=>whnf);first|refine Zg fun _=>?_|refine Zn ?_|refine Zy ?_|fail))
 (conv=>whnf)
 (repeat'(first|exact trivial|rfl|refine And.intro ?_ ?_|fail))
theorem aQz (a b:List UInt8) (h:¬nv2 a b):body Tryz.prog [c68,c56,c90] {} true Tryz.f71 [S a,S b,.clo 157 [] []] (.tup [S [],.val (.bool false)]):=by
 by_cases na:nvOK a
 ·have nb:¬nvOK b:=fun e=>h ⟨na,e⟩
  (repeat'((conv=>whnf);first|refine Zg fun _=>?_|refine Zy ?_|refine Zm ?_|fail))
  (conv=>whnf)
  (repeat'(first|exact trivial|rfl|refine And.intro ?_ ?_|fail))
 ·(repeat'((conv=>whnf);first|refine Zm ?_|fail))
  (conv=>whnf)
  (repeat'(first|exact trivial|rfl|refine And.intro ?_ ?_|fail))
def q56:Con:=aL 71 true fun args K=>match args with
 | [.str a,.str b,.clo 157 [] []]=>Br (nv2 a b) (Giv (bY a∧bY b) (K (.tup [S (numS (valQ a*valQ b)),.val (.bool true)]))) (K (.tup [S [],.val (.bool false)]))
 | _=>False
theorem kq56:aH Tryz.prog q56:=by
 refine aE rfl (enters_of Tryz.func71 (by kernel_rfl) rfl) ?_
 intro args K h
 simp only[q56] at h
 split at h
 ·rename_i a b
  skip
  by_cases hf:nv2 a b
  ·obtain ⟨v1,_,_,v2,v3⟩:=cY hf.1
   obtain ⟨w1,_,_,w2,w3⟩:=cY hf.2
   exact ⟨_,(h.yes hf).go ⟨⟨v1,v2,v3⟩,w1,w2,w3⟩,aC (Γ:=[c68,c56,c90]) (by simp[k68,k56,k90]) Tryz.func71 (by simp[Tryz.ntmps71]) rfl (aQy a b hf ⟨v1,v2,v3⟩ ⟨w1,w2,w3⟩)⟩
  ·exact ⟨_,h.no hf,aC (Γ:=[c68,c56,c90]) (by simp[k68,k56,k90]) Tryz.func71 (by simp[Tryz.ntmps71]) rfl (aQz a b hf)⟩
 ·exact h.elim
theorem aQ0 (a b:List UInt8) (hq:valQ b≠0) (h:nv2 a b) (ha:bY a) (hb:bY b):body Tryz.prog [c68,c48,c90] {} true Tryz.f71 [S a,S b,.clo 77 [] []] (.tup [S (numS (valQ a/valQ b)),.val (.bool true)]):=by
 obtain ⟨na,nb⟩:=h
 obtain ⟨p1,p2,p3⟩:=bP ha
 obtain ⟨q1,q2,q3⟩:=bP hb
 have m1:=mul8 p1 q2
 have m2:=mul8 q1 p2
 have m4:=mul8 p1 q1
 have hq0:(valQ b).num≠0:=fun e=>hq (Rat.num_eq_zero.1 e)
 have m3:=mul8 p2 q1
 rw[← aBb (valQ a) (valQ b) hq]
 (repeat'((conv=>whnf);first|refine Zg fun _=>?_|refine Zn ?_|refine Zy ?_|fail))
 refine Need.mk ⟨by omega,by omega,Int.mul_ne_zero (by omega) hq0⟩ ?_
 skip
 (conv=>whnf)
 (repeat'(first|exact trivial|rfl|refine And.intro ?_ ?_|fail))
theorem aQ1 (a b:List UInt8) (h:¬nv2 a b):body Tryz.prog [c68,c48,c90] {} true Tryz.f71 [S a,S b,.clo 77 [] []] (.tup [S [],.val (.bool false)]):=by
 by_cases na:nvOK a
 ·have nb:¬nvOK b:=fun e=>h ⟨na,e⟩
  (repeat'((conv=>whnf);first|refine Zg fun _=>?_|refine Zy ?_|refine Zm ?_|fail))
  (conv=>whnf)
  (repeat'(first|exact trivial|rfl|refine And.intro ?_ ?_|fail))
 ·(repeat'((conv=>whnf);first|refine Zm ?_|fail))
  (conv=>whnf)
  (repeat'(first|exact trivial|rfl|refine And.intro ?_ ?_|fail))
def q48:Con:=aL 71 true fun args K=>match args with
 | [.str a,.str b,.clo 77 [] []]=>Need (¬b= [48]) (Br (nv2 a b) (Giv (bY a∧bY b) (K (.tup [S (numS (valQ a/valQ b)),.val (.bool true)]))) (K (.tup [S [],.val (.bool false)])))
 | _=>False
theorem aBc:numS 0= [48]:=by
 unfold numS
 rw[if_pos (show Rat.den 0=1 from rfl)]
 exact itoa_zero
theorem kq48:aH Tryz.prog q48:=by
 refine aE rfl (enters_of Tryz.func71 (by kernel_rfl) rfl) ?_
 intro args K h
 simp only[q48] at h
 split at h
 ·rename_i a b
  obtain ⟨hb0,h⟩:=h
  by_cases hf:nv2 a b
  ·obtain ⟨v1,_,_,v2,v3⟩:=cY hf.1
   obtain ⟨w1,_,_,w2,w3⟩:=cY hf.2
   have hq:valQ b≠0:=fun e=>hb0 (by rw[w1,e];exact aBc)
   exact ⟨_,(h.yes hf).go ⟨⟨v1,v2,v3⟩,w1,w2,w3⟩,aC (Γ:=[c68,c48,c90]) (by simp[k68,k48,k90]) Tryz.func71 (by simp[Tryz.ntmps71]) rfl (aQ0 a b hq hf ⟨v1,v2,v3⟩ ⟨w1,w2,w3⟩)⟩
  ·exact ⟨_,h.no hf,aC (Γ:=[c68,c48,c90]) (by simp[k68,k48,k90]) Tryz.func71 (by simp[Tryz.ntmps71]) rfl (aQ1 a b hf)⟩
 ·exact h.elim
theorem mX {a b:List UInt8} (ha:chkI a=0) (hb:chkI b=0) (r:List UInt8 × Int):bE a b r=r:=by
 unfold bE chk2
 rw[ha,hb,if_neg (by simp)]
def c58r:Con:=aL 136 true fun args K=>match args with
 | [.str a,.str b]=>Need (chkI a=0∧chkI b=0) (Br (lim (valI a*valI b)=false) (K (.tup [S (itoa (valI a*valI b)),I 0])) (K (.tup [S [],I 4])))
 | _=>False
theorem k58r:aH Tryz.prog c58r:=by
 refine aE rfl (enters_of Tryz.func136 (by kernel_rfl) rfl) ?_
 intro args K h
 simp only[c58r] at h
 split at h
 ·rename_i a b
  obtain ⟨⟨ha,hb⟩,h⟩:=h
  have ht:=aC (Γ:=[c94,c95,c61,c98,c99f,c96]) (by simp[k94,k95,k61,k98,k99f,k96]) Tryz.func136 (by simp[Tryz.ntmps136]) rfl (b58 a b)
  rw[mX ha hb] at ht
  by_cases hl:lim (valI a*valI b)=false
  ·refine ⟨_,h.yes hl,?_⟩
   unfold resI at ht
   rw[hl] at ht
   exact ht
  ·refine ⟨_,h.no hl,?_⟩
   unfold resI at ht
   rw[show lim _=true from by simpa using hl] at ht
   exact ht
 ·exact h.elim
def c55r:Con:=aL 156 true fun args K=>match args with
 | [.str a,.str b]=>Need (chkI a=0∧chkI b=0) (Br (lim (valI a+valI b)=false) (K (.tup [S (itoa (valI a+valI b)),I 0])) (K (.tup [S [],I 4])))
 | _=>False
theorem k55r:aH Tryz.prog c55r:=by
 refine aE rfl (enters_of Tryz.func156 (by kernel_rfl) rfl) ?_
 intro args K h
 simp only[c55r] at h
 split at h
 ·rename_i a b
  obtain ⟨⟨ha,hb⟩,h⟩:=h
  have ht:=aC (Γ:=[c94,c95,c61,c98,c97,c96]) (by simp[k94,k95,k61,k98,k97,k96]) Tryz.func156 (by simp[Tryz.ntmps156]) rfl (b55 a b)
  rw[mX ha hb] at ht
  by_cases hl:lim (valI a+valI b)=false
  ·refine ⟨_,h.yes hl,?_⟩
   unfold resI at ht
   rw[hl] at ht
   exact ht
  ·refine ⟨_,h.no hl,?_⟩
   unfold resI at ht
   rw[show lim _=true from by simpa using hl] at ht
   exact ht
 ·exact h.elim
def c60r:Con:=aL 75 true fun args K=>match args with
 | [.str a,.str b]=>Need (chkI a=0∧chkI b=0) (Br (lim (valI a-valI b)=false) (K (.tup [S (itoa (valI a-valI b)),I 0])) (K (.tup [S [],I 4])))
 | _=>False
theorem k60r:aH Tryz.prog c60r:=by
 refine aE rfl (enters_of Tryz.func75 (by kernel_rfl) rfl) ?_
 intro args K h
 simp only[c60r] at h
 split at h
 ·rename_i a b
  obtain ⟨⟨ha,hb⟩,h⟩:=h
  have ht:=aC (Γ:=[c94,c95,c61,c98,c97,c96]) (by simp[k94,k95,k61,k98,k97,k96]) Tryz.func75 (by simp[Tryz.ntmps75]) rfl (b60 a b)
  rw[mX ha hb] at ht
  by_cases hl:lim (valI a-valI b)=false
  ·refine ⟨_,h.yes hl,?_⟩
   unfold resI at ht
   rw[hl] at ht
   exact ht
  ·refine ⟨_,h.no hl,?_⟩
   unfold resI at ht
   rw[show lim _=true from by simpa using hl] at ht
   exact ht
 ·exact h.elim
abbrev ck4 (a b c d:List UInt8):Prop:=(chkI a=0∧chkI b=0)∧(chkI c=0∧chkI d=0)
def fU (a b c d:List UInt8):Prop:=lim (valI a*valI d)=false∧lim (valI c*valI b)=false
instance (a b c d:List UInt8):Decidable (fU a b c d):=by unfold fU;infer_instance
theorem b51y (a b c d:List UInt8) (h:ck4 a b c d) (hl:fU a b c d):body Tryz.prog [c58r] {} true Tryz.f79 [.agg [S a,S b],.agg [S c,S d]] (.tup [S (itoa (valI a*valI d)),S (itoa (valI c*valI b)),I 0]):=by
 obtain ⟨⟨h1,h2⟩,h3,h4⟩:=h
 obtain ⟨l1,l2⟩:=hl
 (repeat'((conv=>whnf);first|refine Zn ?_|refine Zy ?_|refine Zm ?_|fail))
 (conv=>whnf)
 (repeat'(first|exact trivial|rfl|refine And.intro ?_ ?_|fail))
theorem b51n (a b c d:List UInt8) (h:ck4 a b c d) (hl:¬fU a b c d):body Tryz.prog [c58r] {} true Tryz.f79 [.agg [S a,S b],.agg [S c,S d]] (.tup [.any,.any,I 4]):=by
 obtain ⟨⟨h1,h2⟩,h3,h4⟩:=h
 by_cases l1:lim (valI a*valI d)=false
 ·have l2:¬lim (valI c*valI b)=false:=fun e=>hl ⟨l1,e⟩
  (repeat'((conv=>whnf);first|refine Zn ?_|refine Zy ?_|refine Zm ?_|fail))
  (conv=>whnf)
  (repeat'(first|exact trivial|rfl|refine And.intro ?_ ?_|fail))
 ·(repeat'((conv=>whnf);first|refine Zn ?_|refine Zy ?_|refine Zm ?_|fail))
  (conv=>whnf)
  (repeat'(first|exact trivial|rfl|refine And.intro ?_ ?_|fail))
def c51:Con:=aL 79 true fun args K=>match args with
 | [.agg [.str a,.str b],.agg [.str c,.str d]]=>Need (ck4 a b c d) (Br (fU a b c d) (K (.tup [S (itoa (valI a*valI d)),S (itoa (valI c*valI b)),I 0])) (K (.tup [.any,.any,I 4])))
 | _=>False
theorem k51:aH Tryz.prog c51:=by
 refine aE rfl (enters_of Tryz.func79 (by kernel_rfl) rfl) ?_
 intro args K h
 simp only[c51] at h
 split at h
 ·rename_i a b c d
  obtain ⟨h0,h⟩:=h
  by_cases hl:fU a b c d
  ·exact ⟨_,h.yes hl,aC (Γ:=[c58r]) (by simp[k58r]) Tryz.func79 (by simp[Tryz.ntmps79]) rfl (b51y a b c d h0 hl)⟩
  ·exact ⟨_,h.no hl,aC (Γ:=[c58r]) (by simp[k58r]) Tryz.func79 (by simp[Tryz.ntmps79]) rfl (b51n a b c d h0 hl)⟩
 ·exact h.elim
abbrev dens (b d:List UInt8):Prop:=0<valI b∧0<valI d
theorem lV (n d:Int):numQ (itoa n) (itoa d)=numS (Rat.divInt n d):=by
 unfold numQ
 rw[aO,aO]
theorem aDo {n:Int} (h:0<n):valI (itoa n)≠0:=by rw[aO];omega
def ok57 (a b c d:List UInt8):Prop:=lim (valI a*valI c)=false∧lim (valI b*valI d)=false
instance (a b c d:List UInt8):Decidable (ok57 a b c d):=by unfold ok57;infer_instance
theorem b57y (a b c d:List UInt8) (h:ck4 a b c d∧dens b d) (hl:ok57 a b c d):body Tryz.prog [c58r,c52] {} true Tryz.f158 [.agg [S a,S b],.agg [S c,S d]] (.tup [S (numQ (itoa (valI a*valI c)) (itoa (valI b*valI d))),I 0]):=by
 obtain ⟨⟨⟨h1,h2⟩,h3,h4⟩,hb,hd⟩:=h
 obtain ⟨l1,l2⟩:=hl
 have k1:=aT l1
 have k2:=aT l2
 have k3:=aDo (Int.mul_pos hb hd)
 (repeat'((conv=>whnf);first|refine Zn ?_|refine Zy ?_|refine Zm ?_|fail))
 (conv=>whnf)
 (repeat'(first|exact trivial|rfl|refine And.intro ?_ ?_|fail))
theorem b57n (a b c d:List UInt8) (h:ck4 a b c d) (hl:¬ok57 a b c d):body Tryz.prog [c58r,c52] {} true Tryz.f158 [.agg [S a,S b],.agg [S c,S d]] (.tup [S [],I 4]):=by
 obtain ⟨⟨h1,h2⟩,h3,h4⟩:=h
 by_cases l1:lim (valI a*valI c)=false
 ·have l2:¬lim (valI b*valI d)=false:=fun e=>hl ⟨l1,e⟩
  (repeat'((conv=>whnf);first|refine Zn ?_|refine Zy ?_|refine Zm ?_|fail))
  (conv=>whnf)
  (repeat'(first|exact trivial|rfl|refine And.intro ?_ ?_|fail))
 ·(repeat'((conv=>whnf);first|refine Zn ?_|refine Zy ?_|refine Zm ?_|fail))
  (conv=>whnf)
  (repeat'(first|exact trivial|rfl|refine And.intro ?_ ?_|fail))
def c57:Con:=aL 158 true fun args K=>match args with
 | [.agg [.str a,.str b],.agg [.str c,.str d]]=>Need (ck4 a b c d∧dens b d) (Br (ok57 a b c d) (K (.tup [S (numS (Rat.divInt (valI a*valI c) (valI b*valI d))),I 0])) (K (.tup [S [],I 4])))
 | _=>False
theorem k57:aH Tryz.prog c57:=by
 refine aE rfl (enters_of Tryz.func158 (by kernel_rfl) rfl) ?_
 intro args K h
 simp only[c57] at h
 split at h
 ·rename_i a b c d
  obtain ⟨h0,h⟩:=h
  by_cases hl:ok57 a b c d
  ·refine ⟨_,h.yes hl,?_⟩
   rw[← lV]
   exact aC (Γ:=[c58r,c52]) (by simp[k58r,k52]) Tryz.func158 (by simp[Tryz.ntmps158]) rfl (b57y a b c d h0 hl)
  ·exact ⟨_,h.no hl,aC (Γ:=[c58r,c52]) (by simp[k58r,k52]) Tryz.func158 (by simp[Tryz.ntmps158]) rfl (b57n a b c d h0.1 hl)⟩
 ·exact h.elim
def oF (a b c d:List UInt8):Prop:=fU a b c d∧lim (valI a*valI d+valI c*valI b)=false∧lim (valI b*valI d)=false
instance (a b c d:List UInt8):Decidable (oF a b c d):=by unfold oF;infer_instance
theorem b93ay (a b c d:List UInt8) (h:ck4 a b c d∧dens b d) (hl:oF a b c d):body Tryz.prog [c51,c55r,c58r,c52] {} true Tryz.f135 [.agg [S a,S b],.agg [S c,S d],.lelem [.clo 156 [] []] 0] (.tup [S (numQ (itoa (valI a*valI d+valI c*valI b)) (itoa (valI b*valI d))),I 0]):=by
 obtain ⟨⟨⟨h1,h2⟩,h3,h4⟩,hb,hd⟩:=h
 obtain ⟨l1,l2,l3⟩:=hl
 have k1:=aT l2
 have k2:=aT l3
 have k3:=aDo (Int.mul_pos hb hd)
 have j1:=aT l1.1
 have j2:=aT l1.2
 have e1:=aO (valI a*valI d)
 have e2:=aO (valI c*valI b)
 (repeat'((conv=>whnf);first|refine Zn ?_|refine Zy ?_|refine Zm ?_|fail))
 rw[e1,e2]
 (repeat'((conv=>whnf);first|refine Zn ?_|refine Zy ?_|refine Zm ?_|fail))
 (conv=>whnf)
 (repeat'(first|exact trivial|rfl|refine And.intro ?_ ?_|fail))
theorem b93an (a b c d:List UInt8) (h:ck4 a b c d) (hl:¬oF a b c d):body Tryz.prog [c51,c55r,c58r,c52] {} true Tryz.f135 [.agg [S a,S b],.agg [S c,S d],.lelem [.clo 156 [] []] 0] (.tup [S [],I 4]):=by
 obtain ⟨⟨h1,h2⟩,h3,h4⟩:=h
 by_cases l1:fU a b c d
 ·have j1:=aT l1.1
  have j2:=aT l1.2
  have e1:=aO (valI a*valI d)
  have e2:=aO (valI c*valI b)
  by_cases l2:lim (valI a*valI d+valI c*valI b)=false
  ·have l3:¬lim (valI b*valI d)=false:=fun e=>hl ⟨l1,l2,e⟩
   (repeat'((conv=>whnf);first|refine Zn ?_|refine Zy ?_|refine Zm ?_|fail))
   rw[e1,e2]
   (repeat'((conv=>whnf);first|refine Zn ?_|refine Zy ?_|refine Zm ?_|fail))
   (conv=>whnf)
   (repeat'(first|exact trivial|rfl|refine And.intro ?_ ?_|fail))
  ·(repeat'((conv=>whnf);first|refine Zn ?_|refine Zy ?_|refine Zm ?_|fail))
   rw[e1,e2]
   (repeat'((conv=>whnf);first|refine Zy ?_|refine Zm ?_|fail))
   (conv=>whnf)
   (repeat'(first|exact trivial|rfl|refine And.intro ?_ ?_|fail))
 ·(repeat'((conv=>whnf);first|refine Zn ?_|refine Zy ?_|refine Zm ?_|fail))
  (conv=>whnf)
  (repeat'(first|exact trivial|rfl|refine And.intro ?_ ?_|fail))
def c93a:Con:=aL 135 true fun args K=>match args with
 | [.agg [.str a,.str b],.agg [.str c,.str d],.lelem [.clo 156 [] []] 0]=>Need (ck4 a b c d∧dens b d) (Br (oF a b c d) (K (.tup [S (numS (Rat.divInt (valI a*valI d+valI c*valI b) (valI b*valI d))),I 0])) (K (.tup [S [],I 4])))
 | _=>False
theorem k93a:aH Tryz.prog c93a:=by
 refine aE rfl (enters_of Tryz.func135 (by kernel_rfl) rfl) ?_
 intro args K h
 simp only[c93a] at h
 split at h
 ·rename_i a b c d
  obtain ⟨h0,h⟩:=h
  by_cases hl:oF a b c d
  ·refine ⟨_,h.yes hl,?_⟩
   rw[← lV]
   exact aC (Γ:=[c51,c55r,c58r,c52]) (by simp[k51,k55r,k58r,k52]) Tryz.func135 (by simp[Tryz.ntmps135]) rfl (b93ay a b c d h0 hl)
  ·exact ⟨_,h.no hl,aC (Γ:=[c51,c55r,c58r,c52]) (by simp[k51,k55r,k58r,k52]) Tryz.func135 (by simp[Tryz.ntmps135]) rfl (b93an a b c d h0.1 hl)⟩
 ·exact h.elim
def oG (a b c d:List UInt8):Prop:=fU a b c d∧lim (valI a*valI d-valI c*valI b)=false∧lim (valI b*valI d)=false
instance (a b c d:List UInt8):Decidable (oG a b c d):=by unfold oG;infer_instance
theorem b93sy (a b c d:List UInt8) (h:ck4 a b c d∧dens b d) (hl:oG a b c d):body Tryz.prog [c51,c60r,c58r,c52] {} true Tryz.f135 [.agg [S a,S b],.agg [S c,S d],.lelem [.clo 75 [] []] 0] (.tup [S (numQ (itoa (valI a*valI d-valI c*valI b)) (itoa (valI b*valI d))),I 0]):=by
 obtain ⟨⟨⟨h1,h2⟩,h3,h4⟩,hb,hd⟩:=h
 obtain ⟨l1,l2,l3⟩:=hl
 have k1:=aT l2
 have k2:=aT l3
 have k3:=aDo (Int.mul_pos hb hd)
 have j1:=aT l1.1
 have j2:=aT l1.2
 have e1:=aO (valI a*valI d)
 have e2:=aO (valI c*valI b)
 (repeat'((conv=>whnf);first|refine Zn ?_|refine Zy ?_|refine Zm ?_|fail))
 rw[e1,e2]
 (repeat'((conv=>whnf);first|refine Zn ?_|refine Zy ?_|refine Zm ?_|fail))
 (conv=>whnf)
 (repeat'(first|exact trivial|rfl|refine And.intro ?_ ?_|fail))
theorem b93sn (a b c d:List UInt8) (h:ck4 a b c d) (hl:¬oG a b c d):body Tryz.prog [c51,c60r,c58r,c52] {} true Tryz.f135 [.agg [S a,S b],.agg [S c,S d],.lelem [.clo 75 [] []] 0] (.tup [S [],I 4]):=by
 obtain ⟨⟨h1,h2⟩,h3,h4⟩:=h
 by_cases l1:fU a b c d
 ·have j1:=aT l1.1
  have j2:=aT l1.2
  have e1:=aO (valI a*valI d)
  have e2:=aO (valI c*valI b)
  by_cases l2:lim (valI a*valI d-valI c*valI b)=false
  ·have l3:¬lim (valI b*valI d)=false:=fun e=>hl ⟨l1,l2,e⟩
   (repeat'((conv=>whnf);first|refine Zn ?_|refine Zy ?_|refine Zm ?_|fail))
   rw[e1,e2]
   (repeat'((conv=>whnf);first|refine Zn ?_|refine Zy ?_|refine Zm ?_|fail))
   (conv=>whnf)
   (repeat'(first|exact trivial|rfl|refine And.intro ?_ ?_|fail))
  ·(repeat'((conv=>whnf);first|refine Zn ?_|refine Zy ?_|refine Zm ?_|fail))
   rw[e1,e2]
   (repeat'((conv=>whnf);first|refine Zy ?_|refine Zm ?_|fail))
   (conv=>whnf)
   (repeat'(first|exact trivial|rfl|refine And.intro ?_ ?_|fail))
 ·(repeat'((conv=>whnf);first|refine Zn ?_|refine Zy ?_|refine Zm ?_|fail))
  (conv=>whnf)
  (repeat'(first|exact trivial|rfl|refine And.intro ?_ ?_|fail))
def c93s:Con:=aL 135 true fun args K=>match args with
 | [.agg [.str a,.str b],.agg [.str c,.str d],.lelem [.clo 75 [] []] 0]=>Need (ck4 a b c d∧dens b d) (Br (oG a b c d) (K (.tup [S (numS (Rat.divInt (valI a*valI d-valI c*valI b) (valI b*valI d))),I 0])) (K (.tup [S [],I 4])))
 | _=>False
theorem k93s:aH Tryz.prog c93s:=by
 refine aE rfl (enters_of Tryz.func135 (by kernel_rfl) rfl) ?_
 intro args K h
 simp only[c93s] at h
 split at h
 ·rename_i a b c d
  obtain ⟨h0,h⟩:=h
  by_cases hl:oG a b c d
  ·refine ⟨_,h.yes hl,?_⟩
   rw[← lV]
   exact aC (Γ:=[c51,c60r,c58r,c52]) (by simp[k51,k60r,k58r,k52]) Tryz.func135 (by simp[Tryz.ntmps135]) rfl (b93sy a b c d h0 hl)
  ·exact ⟨_,h.no hl,aC (Γ:=[c51,c60r,c58r,c52]) (by simp[k51,k60r,k58r,k52]) Tryz.func135 (by simp[Tryz.ntmps135]) rfl (b93sn a b c d h0.1 hl)⟩
 ·exact h.elim
def ok50 (a b c d:List UInt8):Prop:=fU a b c d
instance (a b c d:List UInt8):Decidable (ok50 a b c d):=by unfold ok50;infer_instance
theorem b50y (a b c d:List UInt8) (h:ck4 a b c d∧dens b d∧¬c= [48]) (hl:ok50 a b c d):body Tryz.prog [c51,c52] {} true Tryz.f78 [.agg [S a,S b],.agg [S c,S d]] (.tup [S (numQ (itoa (valI a*valI d)) (itoa (valI c*valI b))),I 0]):=by
 obtain ⟨⟨⟨h1,h2⟩,h3,h4⟩,⟨hb,hd⟩,hc⟩:=h
 have k1:=aT hl.1
 have k2:=aT hl.2
 have k3:valI (itoa (valI c*valI b))≠0:=by
  rw[aO]
  exact Int.mul_ne_zero (aOf (bH h3).1 hc) (by omega)
 (repeat'((conv=>whnf);first|refine Zn ?_|refine Zy ?_|refine Zm ?_|fail))
 (conv=>whnf)
 (repeat'(first|exact trivial|rfl|refine And.intro ?_ ?_|fail))
theorem b50n (a b c d:List UInt8) (h:ck4 a b c d∧¬c= [48]) (hl:¬ok50 a b c d):body Tryz.prog [c51,c52] {} true Tryz.f78 [.agg [S a,S b],.agg [S c,S d]] (.tup [S [],I 4]):=by
 obtain ⟨⟨⟨h1,h2⟩,h3,h4⟩,hc⟩:=h
 have hl:¬fU a b c d:=hl
 (repeat'((conv=>whnf);first|refine Zn ?_|refine Zy ?_|refine Zm ?_|fail))
 (conv=>whnf)
 (repeat'(first|exact trivial|rfl|refine And.intro ?_ ?_|fail))
def c50:Con:=aL 78 true fun args K=>match args with
 | [.agg [.str a,.str b],.agg [.str c,.str d]]=>Need (ck4 a b c d∧dens b d) (Br (c= [48]) (K (.tup [S [],I 12])) (Br (ok50 a b c d) (K (.tup [S (numS (Rat.divInt (valI a*valI d) (valI c*valI b))),I 0])) (K (.tup [S [],I 4]))))
 | _=>False
theorem b50z (a b c d:List UInt8) (hc:c= [48]):body Tryz.prog [c51,c52] {} true Tryz.f78 [.agg [S a,S b],.agg [S c,S d]] (.tup [S [],I 12]):=by
 (repeat'((conv=>whnf);first|refine Zy ?_|fail))
 (conv=>whnf)
 (repeat'(first|exact trivial|rfl|refine And.intro ?_ ?_|fail))
theorem k50:aH Tryz.prog c50:=by
 refine aE rfl (enters_of Tryz.func78 (by kernel_rfl) rfl) ?_
 intro args K h
 simp only[c50] at h
 split at h
 ·rename_i a b c d
  obtain ⟨h0,h⟩:=h
  by_cases hc:c= [48]
  ·exact ⟨_,h.yes hc,aC (Γ:=[c51,c52]) (by simp[k51,k52]) Tryz.func78 (by simp[Tryz.ntmps78]) rfl (b50z a b c d hc)⟩
  replace h:=h.no hc
  by_cases hl:ok50 a b c d
  ·refine ⟨_,h.yes hl,?_⟩
   rw[← lV]
   exact aC (Γ:=[c51,c52]) (by simp[k51,k52]) Tryz.func78 (by simp[Tryz.ntmps78]) rfl (b50y a b c d ⟨h0.1,h0.2,hc⟩ hl)
  ·exact ⟨_,h.no hl,aC (Γ:=[c51,c52]) (by simp[k51,k52]) Tryz.func78 (by simp[Tryz.ntmps78]) rfl (b50n a b c d ⟨h0.1,hc⟩ hl)⟩
 ·exact h.elim
theorem b54 (f:FuncId):body Tryz.prog [] {} false Tryz.f74 [.clo f [] []] (.clo 135 [] [.lelem [.clo f [] []] 0]):=by
 skip
 (conv=>whnf)
 (repeat'(first|exact trivial|rfl|refine And.intro ?_ ?_|fail))
def c54:Con:=aL 74 false fun args K=>match args with | [.clo f [] []]=>K (.clo 135 [] [.lelem [.clo f [] []] 0]) | _=>False
theorem k54:aH Tryz.prog c54:=by
 refine aE rfl (enters_of Tryz.func74 (by kernel_rfl) rfl) ?_
 intro args K h
 simp only[c54] at h
 split at h
 ·rename_i f;exact ⟨_,h,aC (Γ:=[]) (by simp) Tryz.func74 (by simp[Tryz.ntmps74]) rfl (b54 f)⟩
 ·exact h.elim
noncomputable def addf (p q:Rat):List UInt8 × Int:=if lim (p.num*q.den) || lim (q.num*p.den) || lim (p.num*q.den+q.num*p.den) || lim (p.den*q.den) then ([],4) else (numS (p+q),0)
noncomputable def subf (p q:Rat):List UInt8 × Int:=if lim (p.num*q.den) || lim (q.num*p.den) || lim (p.num*q.den-q.num*p.den) || lim (p.den*q.den) then ([],4) else (numS (p-q),0)
noncomputable def mulf (p q:Rat):List UInt8 × Int:=if lim (p.num*q.num) || lim (p.den*q.den) then ([],4) else (numS (p*q),0)
noncomputable def divf (p q:Rat):List UInt8 × Int:=if q=0 then ([],12) else if lim (p.num*q.den) || lim (q.num*p.den) then ([],4) else (numS (p/q),0)
abbrev pn (p:Rat):List UInt8:=itoa p.num
abbrev pd (p:Rat):List UInt8:=decDigits p.den
theorem iW (p:Rat):valI (pn p)=p.num:=aO _
theorem iX (p:Rat):valI (pd p)=p.den:=by unfold pd;rw[← eL,aO]
theorem aKa (q:Rat):pn q= [48]↔q=0:=by
 unfold pn
 rw[← itoa_zero]
 exact ⟨fun h=>Rat.num_eq_zero.1 (gU h),fun h=>by rw[h];rfl⟩
theorem gW {s:List UInt8} (h:aJ9 s):chkI (pn (valQ s))=0∧chkI (pd (valQ s))=0∧0<valI (pd (valQ s)):=by
 refine ⟨aT (by unfold lim;simpa using h.2.1),(aDm h.2.2).2.1,?_⟩
 rw[iX]
 have:=(valQ s).den_pos
 omega
theorem aSu {p q:Rat} (h:oF (pn p) (pd p) (pn q) (pd q)):addf p q=(numS (Rat.divInt (valI (pn p)*valI (pd q)+valI (pn q)*valI (pd p)) (valI (pd p)*valI (pd q))),0):=by
 unfold oF fU at h
 simp only[iW,iX] at h ⊢
 unfold addf
 rw[aA8 p q]
 simp[h]
theorem aSv {p q:Rat} (h:¬oF (pn p) (pd p) (pn q) (pd q)):addf p q=([],4):=by
 unfold oF fU at h
 simp only[iW,iX] at h
 unfold addf
 rw[if_pos]
 apply Classical.byContradiction
 intro hn
 apply h
 simp only[Bool.or_eq_true,not_or,Bool.not_eq_true] at hn
 simp[hn]
theorem aSw {p q:Rat} (h:oG (pn p) (pd p) (pn q) (pd q)):subf p q=(numS (Rat.divInt (valI (pn p)*valI (pd q)-valI (pn q)*valI (pd p)) (valI (pd p)*valI (pd q))),0):=by
 unfold oG fU at h
 simp only[iW,iX] at h ⊢
 unfold subf
 rw[aA9 p q]
 simp[h]
theorem aSx {p q:Rat} (h:¬oG (pn p) (pd p) (pn q) (pd q)):subf p q=([],4):=by
 unfold oG fU at h
 simp only[iW,iX] at h
 unfold subf
 rw[if_pos]
 apply Classical.byContradiction
 intro hn
 apply h
 simp only[Bool.or_eq_true,not_or,Bool.not_eq_true] at hn
 simp[hn]
theorem aSy {p q:Rat} (h:ok57 (pn p) (pd p) (pn q) (pd q)):mulf p q=(numS (Rat.divInt (valI (pn p)*valI (pn q)) (valI (pd p)*valI (pd q))),0):=by
 unfold ok57 at h
 simp only[iW,iX] at h ⊢
 unfold mulf
 rw[aBa p q]
 simp[h]
theorem aSz {p q:Rat} (h:¬ok57 (pn p) (pd p) (pn q) (pd q)):mulf p q=([],4):=by
 unfold ok57 at h
 simp only[iW,iX] at h
 unfold mulf
 rw[if_pos]
 apply Classical.byContradiction
 intro hn
 apply h
 simp only[Bool.or_eq_true,not_or,Bool.not_eq_true] at hn
 simp[hn]
theorem aS0 {p q:Rat} (hq:q≠0) (h:ok50 (pn p) (pd p) (pn q) (pd q)):divf p q=(numS (Rat.divInt (valI (pn p)*valI (pd q)) (valI (pn q)*valI (pd p))),0):=by
 unfold ok50 fU at h
 simp only[iW,iX] at h ⊢
 unfold divf
 rw[if_neg hq,Int.mul_comm q.num,aBb p q hq]
 rw[Int.mul_comm q.num] at h
 simp[h]
theorem aS1 {p q:Rat} (hq:q≠0) (h:¬ok50 (pn p) (pd p) (pn q) (pd q)):divf p q=([],4):=by
 unfold ok50 fU at h
 simp only[iW,iX] at h
 unfold divf
 rw[if_neg hq,if_pos]
 apply Classical.byContradiction
 intro hn
 apply h
 simp only[Bool.or_eq_true,not_or,Bool.not_eq_true] at hn
 simp[hn]
theorem aQ2 (a b:List UInt8):body Tryz.prog [c46,c93a] {} true Tryz.f73 [S a,S b,.clo 135 [] [.lelem [.clo 156 [] []] 0]] (.tup [S (addQ a b).1,I (addQ a b).2]):=by
 by_cases ha:chkQ a=0
 ·by_cases hb:chkQ b=0
  ·have e:addQ a b=addf (valQ a) (valQ b):=by
    show cI a b addf= _
    unfold cI
    rw[if_neg (by simpa using ha),if_neg (by simpa using hb)]
   rw[e]
   obtain ⟨r1,r2,r3⟩:=gW (cV ha)
   obtain ⟨s1,s2,s3⟩:=gW (cV hb)
   by_cases hk:oF (pn (valQ a)) (pd (valQ a)) (pn (valQ b)) (pd (valQ b))
   ·rw[aSu hk]
    (repeat'((conv=>whnf);first|refine Zg fun _=>?_|refine Zy ?_|refine Zm ?_|fail))
    refine Need.mk ⟨⟨⟨r1,r2⟩,s1,s2⟩,r3,s3⟩ ?_
    (repeat'((conv=>whnf);first|refine Zy ?_|fail))
    (conv=>whnf)
    (repeat'(first|exact trivial|rfl|refine And.intro ?_ ?_|fail))
   ·rw[aSv hk]
    (repeat'((conv=>whnf);first|refine Zg fun _=>?_|refine Zy ?_|refine Zm ?_|fail))
    refine Need.mk ⟨⟨⟨r1,r2⟩,s1,s2⟩,r3,s3⟩ ?_
    (repeat'((conv=>whnf);first|refine Zm ?_|fail))
    (conv=>whnf)
    (repeat'(first|exact trivial|rfl|refine And.intro ?_ ?_|fail))
  ·have e:addQ a b=([],chkQ b):=by
    show cI a b addf= _
    unfold cI
    rw[if_neg (by simpa using ha),if_pos hb]
   rw[e]
   (repeat'((conv=>whnf);first|refine Zg fun _=>?_|refine Zy ?_|refine Zm ?_|fail))
   (conv=>whnf)
   (repeat'(first|exact trivial|rfl|refine And.intro ?_ ?_|fail))
 ·have e:addQ a b=([],chkQ a):=by
   show cI a b addf= _
   unfold cI
   rw[if_pos ha]
  rw[e]
  (repeat'((conv=>whnf);first|refine Zy ?_|refine Zm ?_|fail))
  (conv=>whnf)
  (repeat'(first|exact trivial|rfl|refine And.intro ?_ ?_|fail))
def w93a:Con:=aL 73 true fun args K=>match args with
 | [.str a,.str b,.clo 135 [] [.lelem [.clo 156 [] []] 0]]=>K (.tup [S (addQ a b).1,I (addQ a b).2])
 | _=>False
theorem kw93a:aH Tryz.prog w93a:=by
 refine aE rfl (enters_of Tryz.func73 (by kernel_rfl) rfl) ?_
 intro args K h
 simp only[w93a] at h
 split at h
 ·rename_i a b
  exact ⟨_,h,aC (Γ:=[c46,c93a]) (by simp[k46,k93a]) Tryz.func73 (by simp[Tryz.ntmps73]) rfl (aQ2 a b)⟩
 ·exact h.elim
theorem aQ3 (a b:List UInt8):body Tryz.prog [c46,c93s] {} true Tryz.f73 [S a,S b,.clo 135 [] [.lelem [.clo 75 [] []] 0]] (.tup [S (subQ a b).1,I (subQ a b).2]):=by
 by_cases ha:chkQ a=0
 ·by_cases hb:chkQ b=0
  ·have e:subQ a b=subf (valQ a) (valQ b):=by
    show cI a b subf= _
    unfold cI
    rw[if_neg (by simpa using ha),if_neg (by simpa using hb)]
   rw[e]
   obtain ⟨r1,r2,r3⟩:=gW (cV ha)
   obtain ⟨s1,s2,s3⟩:=gW (cV hb)
   by_cases hk:oG (pn (valQ a)) (pd (valQ a)) (pn (valQ b)) (pd (valQ b))
   ·rw[aSw hk]
    (repeat'((conv=>whnf);first|refine Zg fun _=>?_|refine Zy ?_|refine Zm ?_|fail))
    refine Need.mk ⟨⟨⟨r1,r2⟩,s1,s2⟩,r3,s3⟩ ?_
    (repeat'((conv=>whnf);first|refine Zy ?_|fail))
    (conv=>whnf)
    (repeat'(first|exact trivial|rfl|refine And.intro ?_ ?_|fail))
   ·rw[aSx hk]
    (repeat'((conv=>whnf);first|refine Zg fun _=>?_|refine Zy ?_|refine Zm ?_|fail))
    refine Need.mk ⟨⟨⟨r1,r2⟩,s1,s2⟩,r3,s3⟩ ?_
    (repeat'((conv=>whnf);first|refine Zm ?_|fail))
    (conv=>whnf)
    (repeat'(first|exact trivial|rfl|refine And.intro ?_ ?_|fail))
  ·have e:subQ a b=([],chkQ b):=by
    show cI a b subf= _
    unfold cI
    rw[if_neg (by simpa using ha),if_pos hb]
   rw[e]
   (repeat'((conv=>whnf);first|refine Zg fun _=>?_|refine Zy ?_|refine Zm ?_|fail))
   (conv=>whnf)
   (repeat'(first|exact trivial|rfl|refine And.intro ?_ ?_|fail))
 ·have e:subQ a b=([],chkQ a):=by
   show cI a b subf= _
   unfold cI
   rw[if_pos ha]
  rw[e]
  (repeat'((conv=>whnf);first|refine Zy ?_|refine Zm ?_|fail))
  (conv=>whnf)
  (repeat'(first|exact trivial|rfl|refine And.intro ?_ ?_|fail))
def w93s:Con:=aL 73 true fun args K=>match args with
 | [.str a,.str b,.clo 135 [] [.lelem [.clo 75 [] []] 0]]=>K (.tup [S (subQ a b).1,I (subQ a b).2])
 | _=>False
theorem kw93s:aH Tryz.prog w93s:=by
 refine aE rfl (enters_of Tryz.func73 (by kernel_rfl) rfl) ?_
 intro args K h
 simp only[w93s] at h
 split at h
 ·rename_i a b
  exact ⟨_,h,aC (Γ:=[c46,c93s]) (by simp[k46,k93s]) Tryz.func73 (by simp[Tryz.ntmps73]) rfl (aQ3 a b)⟩
 ·exact h.elim
theorem aS2 (a b:List UInt8):body Tryz.prog [c46,c57] {} true Tryz.f73 [S a,S b,.clo 158 [] []] (.tup [S (mulQ a b).1,I (mulQ a b).2]):=by
 by_cases ha:chkQ a=0
 ·by_cases hb:chkQ b=0
  ·have e:mulQ a b=mulf (valQ a) (valQ b):=by
    show cI a b mulf= _
    unfold cI
    rw[if_neg (by simpa using ha),if_neg (by simpa using hb)]
   rw[e]
   obtain ⟨r1,r2,r3⟩:=gW (cV ha)
   obtain ⟨s1,s2,s3⟩:=gW (cV hb)
   by_cases hk:ok57 (pn (valQ a)) (pd (valQ a)) (pn (valQ b)) (pd (valQ b))
   ·rw[aSy hk]
    (repeat'((conv=>whnf);first|refine Zg fun _=>?_|refine Zy ?_|refine Zm ?_|fail))
    refine Need.mk ⟨⟨⟨r1,r2⟩,s1,s2⟩,r3,s3⟩ ?_
    (repeat'((conv=>whnf);first|refine Zy ?_|fail))
    (conv=>whnf)
    (repeat'(first|exact trivial|rfl|refine And.intro ?_ ?_|fail))
   ·rw[aSz hk]
    (repeat'((conv=>whnf);first|refine Zg fun _=>?_|refine Zy ?_|refine Zm ?_|fail))
    refine Need.mk ⟨⟨⟨r1,r2⟩,s1,s2⟩,r3,s3⟩ ?_
    (repeat'((conv=>whnf);first|refine Zm ?_|fail))
    (conv=>whnf)
    (repeat'(first|exact trivial|rfl|refine And.intro ?_ ?_|fail))
  ·have e:mulQ a b=([],chkQ b):=by
    show cI a b mulf= _
    unfold cI
    rw[if_neg (by simpa using ha),if_pos hb]
   rw[e]
   (repeat'((conv=>whnf);first|refine Zg fun _=>?_|refine Zy ?_|refine Zm ?_|fail))
   (conv=>whnf)
   (repeat'(first|exact trivial|rfl|refine And.intro ?_ ?_|fail))
 ·have e:mulQ a b=([],chkQ a):=by
   show cI a b mulf= _
   unfold cI
   rw[if_pos ha]
  rw[e]
  (repeat'((conv=>whnf);first|refine Zy ?_|refine Zm ?_|fail))
  (conv=>whnf)
  (repeat'(first|exact trivial|rfl|refine And.intro ?_ ?_|fail))
def w57:Con:=aL 73 true fun args K=>match args with
 | [.str a,.str b,.clo 158 [] []]=>K (.tup [S (mulQ a b).1,I (mulQ a b).2])
 | _=>False
theorem kw57:aH Tryz.prog w57:=by
 refine aE rfl (enters_of Tryz.func73 (by kernel_rfl) rfl) ?_
 intro args K h
 simp only[w57] at h
 split at h
 ·rename_i a b
  exact ⟨_,h,aC (Γ:=[c46,c57]) (by simp[k46,k57]) Tryz.func73 (by simp[Tryz.ntmps73]) rfl (aS2 a b)⟩
 ·exact h.elim
theorem aS3 (a b:List UInt8):body Tryz.prog [c46,c50] {} true Tryz.f73 [S a,S b,.clo 78 [] []] (.tup [S (divQ a b).1,I (divQ a b).2]):=by
 by_cases ha:chkQ a=0
 ·by_cases hb:chkQ b=0
  ·have e:divQ a b=divf (valQ a) (valQ b):=by
    show cI a b divf= _
    unfold cI
    rw[if_neg (by simpa using ha),if_neg (by simpa using hb)]
   rw[e]
   obtain ⟨r1,r2,r3⟩:=gW (cV ha)
   obtain ⟨s1,s2,s3⟩:=gW (cV hb)
   by_cases hz:pn (valQ b)= [48]
   ·have hd:divf (valQ a) (valQ b)=([],12):=by unfold divf;rw[if_pos ((aKa _).1 hz)]
    rw[hd]
    (repeat'((conv=>whnf);first|refine Zg fun _=>?_|refine Zy ?_|refine Zm ?_|fail))
    refine Need.mk ⟨⟨⟨r1,r2⟩,s1,s2⟩,r3,s3⟩ ?_
    (repeat'((conv=>whnf);first|refine Zy ?_|fail))
    (conv=>whnf)
    (repeat'(first|exact trivial|rfl|refine And.intro ?_ ?_|fail))
   ·have hq:valQ b≠0:=fun e=>hz ((aKa _).2 e)
    by_cases hk:ok50 (pn (valQ a)) (pd (valQ a)) (pn (valQ b)) (pd (valQ b))
    ·rw[aS0 hq hk]
     (repeat'((conv=>whnf);first|refine Zg fun _=>?_|refine Zy ?_|refine Zm ?_|fail))
     refine Need.mk ⟨⟨⟨r1,r2⟩,s1,s2⟩,r3,s3⟩ ?_
     (repeat'((conv=>whnf);first|refine Zy ?_|refine Zm ?_|fail))
     (conv=>whnf)
     (repeat'(first|exact trivial|rfl|refine And.intro ?_ ?_|fail))
    ·rw[aS1 hq hk]
     (repeat'((conv=>whnf);first|refine Zg fun _=>?_|refine Zy ?_|refine Zm ?_|fail))
     refine Need.mk ⟨⟨⟨r1,r2⟩,s1,s2⟩,r3,s3⟩ ?_
     (repeat'((conv=>whnf);first|refine Zm ?_|fail))
     (conv=>whnf)
     (repeat'(first|exact trivial|rfl|refine And.intro ?_ ?_|fail))
  ·have e:divQ a b=([],chkQ b):=by
    show cI a b divf= _
    unfold cI
    rw[if_neg (by simpa using ha),if_pos hb]
   rw[e]
   (repeat'((conv=>whnf);first|refine Zg fun _=>?_|refine Zy ?_|refine Zm ?_|fail))
   (conv=>whnf)
   (repeat'(first|exact trivial|rfl|refine And.intro ?_ ?_|fail))
 ·have e:divQ a b=([],chkQ a):=by
   show cI a b divf= _
   unfold cI
   rw[if_pos ha]
  rw[e]
  (repeat'((conv=>whnf);first|refine Zy ?_|refine Zm ?_|fail))
  (conv=>whnf)
  (repeat'(first|exact trivial|rfl|refine And.intro ?_ ?_|fail))
def w50:Con:=aL 73 true fun args K=>match args with
 | [.str a,.str b,.clo 78 [] []]=>K (.tup [S (divQ a b).1,I (divQ a b).2])
 | _=>False
theorem kw50:aH Tryz.prog w50:=by
 refine aE rfl (enters_of Tryz.func73 (by kernel_rfl) rfl) ?_
 intro args K h
 simp only[w50] at h
 split at h
 ·rename_i a b
  exact ⟨_,h,aC (Γ:=[c46,c50]) (by simp[k46,k50]) Tryz.func73 (by simp[Tryz.ntmps73]) rfl (aS3 a b)⟩
 ·exact h.elim
theorem bC {n:Int} (h:n.natAbs<10^40):lim n=false:=by
 unfold lim
 have:=gT 39 n.natAbs h
 simp;omega
theorem mY {a b:List UInt8} (ha:bY a) (hb:bY b) (f:Rat→Rat→List UInt8 × Int):cI a b f=f (valQ a) (valQ b):=by
 unfold cI
 rw[if_neg (by rw[iU ha];simp),if_neg (by rw[iU hb];simp)]
theorem aIa {a b:List UInt8} (ha:bY a) (hb:bY b):addQ a b=(numS (valQ a+valQ b),0):=by
 rw[show addQ a b=addf (valQ a) (valQ b) from mY ha hb addf]
 obtain ⟨p1,p2,p3⟩:=bP ha
 obtain ⟨q1,q2,q3⟩:=bP hb
 have m1:=mul8 p1 q2
 have m2:=mul8 q1 p2
 have m3:=mul8 p2 q2
 have m4:=mul8 p1 q1
 unfold addf
 rw[bC (n:=(valQ a).num*(valQ b).den) (by omega),bC (n:=(valQ b).num*(valQ a).den) (by omega),bC (n:=(valQ a).num*(valQ b).den+(valQ b).num*(valQ a).den) (by omega),bC (n:=(valQ a).den*(valQ b).den) (by omega)]
 rfl
theorem aIb {a b:List UInt8} (ha:bY a) (hb:bY b):subQ a b=(numS (valQ a-valQ b),0):=by
 rw[show subQ a b=subf (valQ a) (valQ b) from mY ha hb subf]
 obtain ⟨p1,p2,p3⟩:=bP ha
 obtain ⟨q1,q2,q3⟩:=bP hb
 have m1:=mul8 p1 q2
 have m2:=mul8 q1 p2
 have m3:=mul8 p2 q2
 have m4:=mul8 p1 q1
 unfold subf
 rw[bC (n:=(valQ a).num*(valQ b).den) (by omega),bC (n:=(valQ b).num*(valQ a).den) (by omega),bC (n:=(valQ a).num*(valQ b).den-(valQ b).num*(valQ a).den) (by omega),bC (n:=(valQ a).den*(valQ b).den) (by omega)]
 rfl
theorem aIc {a b:List UInt8} (ha:bY a) (hb:bY b):mulQ a b=(numS (valQ a*valQ b),0):=by
 rw[show mulQ a b=mulf (valQ a) (valQ b) from mY ha hb mulf]
 obtain ⟨p1,p2,p3⟩:=bP ha
 obtain ⟨q1,q2,q3⟩:=bP hb
 have m1:=mul8 p1 q2
 have m2:=mul8 q1 p2
 have m3:=mul8 p2 q2
 have m4:=mul8 p1 q1
 unfold mulf
 rw[bC (n:=(valQ a).num*(valQ b).num) (by omega),bC (n:=(valQ a).den*(valQ b).den) (by omega)]
 rfl
theorem aId {a b:List UInt8} (ha:bY a) (hb:bY b) (h0:¬b= [48]):divQ a b=(numS (valQ a/valQ b),0):=by
 rw[show divQ a b=divf (valQ a) (valQ b) from mY ha hb divf]
 obtain ⟨p1,p2,p3⟩:=bP ha
 obtain ⟨q1,q2,q3⟩:=bP hb
 have m1:=mul8 p1 q2
 have m2:=mul8 q1 p2
 unfold divf
 rw[if_neg (fun e=>h0 (by rw[hb.1,e];exact aBc)),bC (n:=(valQ a).num*(valQ b).den) (by omega),bC (n:=(valQ b).num*(valQ a).den) (by omega)]
 rfl
theorem b17 (a b:List UInt8):body Tryz.prog [q53,w93a,c54] {} true Tryz.f97 [S a,S b] (.tup [S (addQ a b).1,I (addQ a b).2]):=by
 by_cases h:nv2 a b
 ·have ha:=(cY h.1);have hb:=(cY h.2)
  rw[aIa ⟨ha.1,ha.2.2.2⟩ ⟨hb.1,hb.2.2.2⟩]
  (repeat'((conv=>whnf);first|refine Zg fun _=>?_|refine Zy ?_|fail))
  (conv=>whnf)
  (repeat'(first|exact trivial|rfl|refine And.intro ?_ ?_|fail))
 ·(repeat'((conv=>whnf);first|refine Zm ?_|fail))
  (conv=>whnf)
  (repeat'(first|exact trivial|rfl|refine And.intro ?_ ?_|fail))
def c17:Con:=aL 97 true fun args K=>match args with | [.str a,.str b]=>K (.tup [S (addQ a b).1,I (addQ a b).2]) | _=>False
theorem k17:aH Tryz.prog c17:=by
 refine aE rfl (enters_of Tryz.func97 (by kernel_rfl) rfl) ?_
 intro args K h
 simp only[c17] at h
 split at h
 ·rename_i a b
  exact ⟨_,h,aC (Γ:=[q53,w93a,c54]) (by simp[kq53,kw93a,k54]) Tryz.func97 (by simp[Tryz.ntmps97]) rfl (b17 a b)⟩
 ·exact h.elim
theorem b20 (a b:List UInt8):body Tryz.prog [q59,w93s,c54] {} true Tryz.f15 [S a,S b] (.tup [S (subQ a b).1,I (subQ a b).2]):=by
 by_cases h:nv2 a b
 ·have ha:=(cY h.1);have hb:=(cY h.2)
  rw[aIb ⟨ha.1,ha.2.2.2⟩ ⟨hb.1,hb.2.2.2⟩]
  (repeat'((conv=>whnf);first|refine Zg fun _=>?_|refine Zy ?_|fail))
  (conv=>whnf)
  (repeat'(first|exact trivial|rfl|refine And.intro ?_ ?_|fail))
 ·(repeat'((conv=>whnf);first|refine Zm ?_|fail))
  (conv=>whnf)
  (repeat'(first|exact trivial|rfl|refine And.intro ?_ ?_|fail))
def c20:Con:=aL 15 true fun args K=>match args with | [.str a,.str b]=>K (.tup [S (subQ a b).1,I (subQ a b).2]) | _=>False
theorem k20:aH Tryz.prog c20:=by
 refine aE rfl (enters_of Tryz.func15 (by kernel_rfl) rfl) ?_
 intro args K h
 simp only[c20] at h
 split at h
 ·rename_i a b
  exact ⟨_,h,aC (Γ:=[q59,w93s,c54]) (by simp[kq59,kw93s,k54]) Tryz.func15 (by simp[Tryz.ntmps15]) rfl (b20 a b)⟩
 ·exact h.elim
theorem b19 (a b:List UInt8):body Tryz.prog [q56,w57] {} true Tryz.f98 [S a,S b] (.tup [S (mulQ a b).1,I (mulQ a b).2]):=by
 by_cases h:nv2 a b
 ·have ha:=(cY h.1);have hb:=(cY h.2)
  rw[aIc ⟨ha.1,ha.2.2.2⟩ ⟨hb.1,hb.2.2.2⟩]
  (repeat'((conv=>whnf);first|refine Zg fun _=>?_|refine Zy ?_|fail))
  (conv=>whnf)
  (repeat'(first|exact trivial|rfl|refine And.intro ?_ ?_|fail))
 ·(repeat'((conv=>whnf);first|refine Zm ?_|fail))
  (conv=>whnf)
  (repeat'(first|exact trivial|rfl|refine And.intro ?_ ?_|fail))
def c19:Con:=aL 98 true fun args K=>match args with | [.str a,.str b]=>K (.tup [S (mulQ a b).1,I (mulQ a b).2]) | _=>False
theorem k19:aH Tryz.prog c19:=by
 refine aE rfl (enters_of Tryz.func98 (by kernel_rfl) rfl) ?_
 intro args K h
 simp only[c19] at h
 split at h
 ·rename_i a b
  exact ⟨_,h,aC (Γ:=[q56,w57]) (by simp[kq56,kw57]) Tryz.func98 (by simp[Tryz.ntmps98]) rfl (b19 a b)⟩
 ·exact h.elim
theorem b14 (a b:List UInt8):body Tryz.prog [q48,w50] {} true Tryz.f18 [S a,S b] (.tup [S (divQ a b).1,I (divQ a b).2]):=by
 by_cases h0:b= [48]
 ·(repeat'((conv=>whnf);first|refine Zm ?_|fail))
  (conv=>whnf)
  (repeat'(first|exact trivial|rfl|refine And.intro ?_ ?_|fail))
 ·by_cases h:nv2 a b
  ·have ha:=(cY h.1);have hb:=(cY h.2)
   rw[aId ⟨ha.1,ha.2.2.2⟩ ⟨hb.1,hb.2.2.2⟩ h0]
   (repeat'((conv=>whnf);first|refine Zg fun _=>?_|refine Zn ?_|refine Zy ?_|fail))
   (conv=>whnf)
   (repeat'(first|exact trivial|rfl|refine And.intro ?_ ?_|fail))
  ·(repeat'((conv=>whnf);first|refine Zn ?_|refine Zy ?_|refine Zm ?_|fail))
   (conv=>whnf)
   (repeat'(first|exact trivial|rfl|refine And.intro ?_ ?_|fail))
def c14:Con:=aL 18 true fun args K=>match args with | [.str a,.str b]=>K (.tup [S (divQ a b).1,I (divQ a b).2]) | _=>False
theorem k14:aH Tryz.prog c14:=by
 refine aE rfl (enters_of Tryz.func18 (by kernel_rfl) rfl) ?_
 intro args K h
 simp only[c14] at h
 split at h
 ·rename_i a b
  exact ⟨_,h,aC (Γ:=[q48,w50]) (by simp[kq48,kw50]) Tryz.func18 (by simp[Tryz.ntmps18]) rfl (b14 a b)⟩
 ·exact h.elim
theorem b21 (a:List UInt8):body Tryz.prog [c46] {} true Tryz.f63 [S a] (I (chkQ a)):=by
 by_cases h:chkQ a=0
 ·rw[h]
  (repeat'((conv=>whnf);first|refine Zg fun _=>?_|refine Zy ?_|fail))
  (conv=>whnf)
  (repeat'(first|rfl|refine And.intro ?_ ?_|fail))
 ·(repeat'((conv=>whnf);first|refine Zm ?_|fail))
  (conv=>whnf)
  (repeat'(first|rfl|refine And.intro ?_ ?_|fail))
def c21:Con:=aL 63 true fun args K=>match args with | [.str a]=>K (I (chkQ a)) | _=>False
theorem k21:aH Tryz.prog c21:=by
 refine aE rfl (enters_of Tryz.func63 (by kernel_rfl) rfl) ?_
 intro args K h
 simp only[c21] at h
 split at h
 ·rename_i a;exact ⟨_,h,aC (Γ:=[c46]) (by simp[k46]) Tryz.func63 (by simp[Tryz.ntmps63]) rfl (b21 a)⟩
 ·exact h.elim
noncomputable def ofQ (n d:Int):List UInt8 × Int:=if d=0 then ([],12) else (numS (Rat.divInt n d),0)
theorem div_one (n:Int):numS (Rat.divInt n 1)=itoa n:=by
 rw[eD _ _ (by omega),show (1:Int).toNat=1 from rfl,vM _ _ (by omega),Nat.gcd_one_left,if_pos rfl]
 simp
theorem b22 (n d:Int) (h:(-9223372036854775808≤n∧n≤9223372036854775807)∧(-9223372036854775808≤d∧d≤9223372036854775807)):body Tryz.prog [c61,c52] {} true Tryz.f17 [I n,I d] (.tup [S (ofQ n d).1,I (ofQ n d).2]):=by
 obtain ⟨hn,hd⟩:=h
 unfold ofQ
 by_cases h0:d=0
 ·rw[if_pos h0]
  (repeat'((conv=>whnf);first|refine Zy ?_|fail))
  (conv=>whnf)
  (repeat'(first|exact trivial|rfl|refine And.intro ?_ ?_|fail))
 ·rw[if_neg h0]
  by_cases h1:d=1
  ·subst h1
   rw[div_one]
   (repeat'((conv=>whnf);first|refine Zy ?_|refine Zm ?_|fail))
   (conv=>whnf)
   (repeat'(first|exact trivial|rfl|refine And.intro ?_ ?_|fail))
  ·have k1:=aT (bC (n:=n) (by omega))
   have k2:=aT (bC (n:=d) (by omega))
   have k3:valI (itoa d)≠0:=by rw[aO];exact h0
   rw[← lV]
   (repeat'((conv=>whnf);first|refine Zn ?_|refine Zm ?_|fail))
   (conv=>whnf)
   (repeat'(first|exact trivial|rfl|refine And.intro ?_ ?_|fail))
def c22:Con:=aL 17 true fun args K=>match args with | [.val (.int .i64 n),.val (.int .i64 d)]=>Need ((-9223372036854775808≤n∧n≤9223372036854775807)∧(-9223372036854775808≤d∧d≤9223372036854775807)) (K (.tup [S (ofQ n d).1,I (ofQ n d).2])) | _=>False
theorem k22:aH Tryz.prog c22:=by
 refine aE rfl (enters_of Tryz.func17 (by kernel_rfl) rfl) ?_
 intro args K h
 simp only[c22] at h
 split at h
 ·rename_i n d;exact ⟨_,h.go,aC (Γ:=[c61,c52]) (by simp[k61,k52]) Tryz.func17 (by simp[Tryz.ntmps17]) rfl (b22 n d h.ok)⟩
 ·exact h.elim
noncomputable def flQ (a:List UInt8):List UInt8 × Int:=if chkQ a=0 then (itoa ((valQ a).num/(valQ a).den),0) else ([],chkQ a)
theorem aGi {x y:Int} (hy:0<y):(if x.tmod y<0 then x.tdiv y-1 else x.tdiv y)=x/y:=by
 have h:=aA3 x y (by omega)
 rw[← Int.fdiv_eq_ediv_of_nonneg x (by omega)]
 by_cases hm:x.tmod y<0
 ·rw[if_pos ⟨by omega,by omega⟩,Prod.mk.injEq] at h
  rw[if_pos hm];exact h.1
 ·rw[if_neg (by omega),Prod.mk.injEq] at h
  rw[if_neg hm];exact h.1
theorem aL7 {x y:Int} (hx:lim x=false) (hy:lim y=false) (h0:0<y):divI (itoa x) (itoa y)=(itoa (x/y),itoa (x%y),0):=by
 unfold divI chk2
 rw[aT hx,aT hy,if_neg (by simp),if_neg (fun e=>by
  have:=gU (e.trans itoa_zero.symm);omega),aO,aO]
 have e1:x.fdiv y=x/y:=Int.fdiv_eq_ediv_of_nonneg _ (by omega)
 have e2:x.fmod y=x%y:=Int.fmod_eq_emod_of_nonneg _ (by omega)
 unfold dvI
 rw[e1,e2]
 have l1:lim (x/y)=false:=iV (y:=x) (Int.natAbs_ediv_le_natAbs _ _) hx
 have l2:lim (x%y)=false:=iV (y:=y) (by
  have:=Int.emod_nonneg x (show y≠0 by omega)
  have:=Int.emod_lt_of_pos x h0
  omega) hy
 rw[l1,l2];rfl
theorem aGj {s:List UInt8} (h:aJ9 s):lim (valQ s).num=false∧lim ((valQ s).den:Int)=false:=by
 constructor
 ·unfold lim;simpa using h.2.1
 ·unfold lim;rw[Int.natAbs_natCast];simpa using h.2.2
theorem b29 (a:List UInt8):body Tryz.prog [c68,c46,c61,c69] {} true Tryz.f66 [S a] (.tup [S (flQ a).1,I (flQ a).2]):=by
 unfold flQ
 by_cases hv:nvOK a
 ·have ha:=cY hv
  have hs:bY a:=⟨ha.1,ha.2.2.2⟩
  obtain ⟨p1,p2,p3⟩:=bP hs
  rw[if_pos (iU hs)]
  have hd:((valQ a).num.tdiv (valQ a).den).natAbs≤(valQ a).num.natAbs:=by rw[Int.natAbs_tdiv];exact Nat.div_le_self _ _
  have hm:((valQ a).num.tmod (valQ a).den).natAbs<((valQ a).den:Int).natAbs:=by rw[Int.natAbs_tmod];exact Nat.mod_lt _ (by omega)
  rw[← aGi p3]
  by_cases hneg:(valQ a).num.tmod (valQ a).den<0
  ·rw[if_pos hneg]
   (repeat'((conv=>whnf);first|refine Zg fun _=>?_|refine Zb ?_|refine Zn ?_|refine Zy ?_|fail))
   (conv=>whnf)
   (repeat'(first|exact trivial|rfl|refine And.intro ?_ ?_|fail))
  ·rw[if_neg hneg]
   (repeat'((conv=>whnf);first|refine Zg fun _=>?_|refine Zb ?_|refine Zn ?_|refine Zy ?_|refine Zm ?_|fail))
   (conv=>whnf)
   (repeat'(first|exact trivial|rfl|refine And.intro ?_ ?_|fail))
 ·by_cases h:chkQ a=0
  ·rw[if_pos h]
   obtain ⟨r1,r2,r3⟩:=gW (cV h)
   obtain ⟨l1,l2⟩:=aGj (cV h)
   have hpos:=(valQ a).den_pos
   have hd:=aL7 l1 l2 (by omega)
   rw[eL] at hd
   (repeat'((conv=>whnf);first|refine Zg fun _=>?_|refine Zy ?_|refine Zm ?_|fail))
   (conv=>whnf)
   (repeat'(first|exact trivial|rfl|refine And.intro ?_ ?_|fail))
   ·exact congrArg Prod.fst hd
   ·exact congrArg (fun z=>z.2.2) hd
  ·rw[if_neg h]
   (repeat'((conv=>whnf);first|refine Zy ?_|refine Zm ?_|fail))
   (conv=>whnf)
   (repeat'(first|exact trivial|rfl|refine And.intro ?_ ?_|fail))
def c29:Con:=aL 66 true fun args K=>match args with | [.str a]=>K (.tup [S (flQ a).1,I (flQ a).2]) | _=>False
theorem k29:aH Tryz.prog c29:=by
 refine aE rfl (enters_of Tryz.func66 (by kernel_rfl) rfl) ?_
 intro args K h
 simp only[c29] at h
 split at h
 ·rename_i a;exact ⟨_,h,aC (Γ:=[c68,c46,c61,c69]) (by simp[k68,k46,k61,k69]) Tryz.func66 (by simp[Tryz.ntmps66]) rfl (b29 a)⟩
 ·exact h.elim
noncomputable def inQ (a:List UInt8):Int × Int:=if chkQ a=0 then (if (valQ a).den=1 then (if (valQ a).num < -4611686018427387904∨4611686018427387904<(valQ a).num then (0,2) else ((valQ a).num,0)) else (0,8)) else (0,chkQ a)
theorem b31 (a:List UInt8):body Tryz.prog [c46,c72] {} true Tryz.f130 [S a] (.tup [I (inQ a).1,I (inQ a).2]):=by
 unfold inQ
 by_cases h:chkQ a=0
 ·rw[if_pos h]
  have hr:=cV h
  obtain ⟨l1,l2⟩:=aGj hr
  have e1:pd (valQ a)= [49]↔(valQ a).den=1:=by
   unfold pd
   constructor
   ·intro e
    have:=congrArg aF e
    rw[bZ] at this
    exact this
   ·intro e;rw[e];exact cF (show 1<10 by omega)
  by_cases hd:(valQ a).den=1
  ·rw[if_pos hd]
   have hd:=e1.2 hd
   have hf:=eS (valQ a).num
   have hl:=eE l1
   have hv:=aO (valQ a).num
   by_cases hb:(valQ a).num < -4611686018427387904∨4611686018427387904<(valQ a).num
   ·rw[if_pos hb]
    by_cases hfit:fitI (valI (itoa (valQ a).num))
    ·rcases hb with hb | hb
     ·(repeat'((conv=>whnf);first|refine Zg fun _=>?_|refine Zy ?_|refine Zm ?_|fail))
      refine Need.mk ⟨hf,by omega⟩ ?_
      (repeat'((conv=>whnf);first|refine Zy ?_|fail))
      (conv=>whnf)
      (repeat'(first|exact trivial|rfl|refine And.intro ?_ ?_|fail))
     ·(repeat'((conv=>whnf);first|refine Zg fun _=>?_|refine Zy ?_|refine Zm ?_|fail))
      refine Need.mk ⟨hf,by omega⟩ ?_
      (repeat'((conv=>whnf);first|refine Zy ?_|refine Zm ?_|fail))
      (conv=>whnf)
      (repeat'(first|exact trivial|rfl|refine And.intro ?_ ?_|fail))
    ·(repeat'((conv=>whnf);first|refine Zg fun _=>?_|refine Zy ?_|refine Zm ?_|fail))
     refine Need.mk ⟨hf,by omega⟩ ?_
     (repeat'((conv=>whnf);first|refine Zm ?_|fail))
     (conv=>whnf)
     intro q hq
     skip
     (refine Br.mk (fun _=>?_) (fun _=>?_))
     ·skip
      (conv=>whnf)
      (repeat'(first|exact trivial|rfl|refine And.intro ?_ ?_|fail))
     ·rcases (tG hf).2 hfit with ⟨_,hs⟩ | ⟨_,hs⟩
      ·(repeat'((conv=>whnf);first|refine Zy ?_|refine Zm ?_|fail))
       (conv=>whnf)
       (repeat'(first|exact trivial|rfl|refine And.intro ?_ ?_|fail))
      ·(repeat'((conv=>whnf);first|refine Zy ?_|fail))
       (conv=>whnf)
       (repeat'(first|exact trivial|rfl|refine And.intro ?_ ?_|fail))
   ·rw[if_neg hb]
    have hfit:fitI (valI (itoa (valQ a).num)):=by unfold fitI;rw[hv];omega
    (repeat'((conv=>whnf);first|refine Zg fun _=>?_|refine Zy ?_|refine Zm ?_|fail))
    refine Need.mk ⟨hf,by omega⟩ ?_
    (repeat'((conv=>whnf);first|refine Zy ?_|refine Zm ?_|fail))
    (conv=>whnf)
    (repeat'(first|exact trivial|rfl|refine And.intro ?_ ?_|fail))
    exact hv
  ·rw[if_neg hd]
   have hd:=fun e=>hd (e1.1 e)
   (repeat'((conv=>whnf);first|refine Zg fun _=>?_|refine Zy ?_|refine Zm ?_|fail))
   (conv=>whnf)
   (repeat'(first|exact trivial|rfl|refine And.intro ?_ ?_|fail))
 ·rw[if_neg h]
  (repeat'((conv=>whnf);first|refine Zy ?_|refine Zm ?_|fail))
  (conv=>whnf)
  (repeat'(first|exact trivial|rfl|refine And.intro ?_ ?_|fail))
def c31:Con:=aL 130 true fun args K=>match args with | [.str a]=>K (.tup [I (inQ a).1,I (inQ a).2]) | _=>False
theorem k31:aH Tryz.prog c31:=by
 refine aE rfl (enters_of Tryz.func130 (by kernel_rfl) rfl) ?_
 intro args K h
 simp only[c31] at h
 split at h
 ·rename_i a;exact ⟨_,h,aC (Γ:=[c46,c72]) (by simp[k46,k72]) Tryz.func130 (by simp[Tryz.ntmps130]) rfl (b31 a)⟩
 ·exact h.elim
noncomputable def cmpf (p q:Rat):Int × Int:=if lim (p.num*q.den) || lim (q.num*p.den) then (0,4) else (cmpI (p.num*q.den) (q.num*p.den),0)
noncomputable def cmpQ (a b:List UInt8):Int × Int:=if chkQ a≠0 then (0,chkQ a) else if chkQ b≠0 then (0,chkQ b) else cmpf (valQ a) (valQ b)
def c77r:Con:=aL 118 true fun args K=>match args with
 | [.str a,.str b]=>Need (chkI a=0∧chkI b=0) (K (.tup [I (cmpI (valI a) (valI b)),I 0]))
 | _=>False
theorem k77r:aH Tryz.prog c77r:=by
 refine aE rfl (enters_of Tryz.func118 (by kernel_rfl) rfl) ?_
 intro args K h
 simp only[c77r] at h
 split at h
 ·rename_i a b
  obtain ⟨⟨ha,hb⟩,h⟩:=h
  have ht:=aC (Γ:=[c94,c95,c98,c97,c76]) (by simp[k94,k95,k98,k97,k76]) Tryz.func118 (by simp[Tryz.ntmps118]) rfl (b77 a b)
  unfold aJ6 chk2 at ht
  rw[ha,hb,if_neg (by simp)] at ht
  exact ⟨_,h,ht⟩
 ·exact h.elim
theorem b38 (a b:List UInt8):body Tryz.prog [c68,c46,c76,c51,c77r] {} true Tryz.f56 [S a,S b] (.tup [I (cmpQ a b).1,I (cmpQ a b).2]):=by
 unfold cmpQ
 by_cases hv:nv2 a b
 ·obtain ⟨na,nb⟩:=hv
  have ha:bY a:=⟨(cY na).1,(cY na).2.2.2⟩
  have hb:bY b:=⟨(cY nb).1,(cY nb).2.2.2⟩
  obtain ⟨p1,p2,p3⟩:=bP ha
  obtain ⟨q1,q2,q3⟩:=bP hb
  have m1:=mul8 p1 q2
  have m2:=mul8 q1 p2
  have e:cmpf (valQ a) (valQ b)=(cmpI ((valQ a).num*(valQ b).den) ((valQ b).num*(valQ a).den),0):=by
   unfold cmpf
   rw[bC (n:=(valQ a).num*(valQ b).den) (by omega),bC (n:=(valQ b).num*(valQ a).den) (by omega)]
   rfl
  rw[if_neg (by rw[iU ha];simp),if_neg (by rw[iU hb];simp),e]
  (repeat'((conv=>whnf);first|refine Zg fun _=>?_|refine Zn ?_|refine Zy ?_|fail))
  (conv=>whnf)
  (repeat'(first|exact trivial|rfl|refine And.intro ?_ ?_|fail))
 ·by_cases hca:chkQ a=0
  ·by_cases hcb:chkQ b=0
   ·rw[if_neg (by simpa using hca),if_neg (by simpa using hcb)]
    obtain ⟨r1,r2,r3⟩:=gW (cV hca)
    obtain ⟨s1,s2,s3⟩:=gW (cV hcb)
    have v1:=iW (valQ a)
    have v2:=iX (valQ a)
    have v3:=iW (valQ b)
    have v4:=iX (valQ b)
    by_cases hk:fU (pn (valQ a)) (pd (valQ a)) (pn (valQ b)) (pd (valQ b))
    ·have e:cmpf (valQ a) (valQ b)=(cmpI (valI (itoa (valI (pn (valQ a))*valI (pd (valQ b))))) (valI (itoa (valI (pn (valQ b))*valI (pd (valQ a))))),0):=by
      have hk2:=hk
      unfold fU at hk2
      simp only[iW,iX,aO] at hk2 ⊢
      unfold cmpf
      rw[hk2.1,hk2.2]
      rfl
     rw[e]
     have k1:=aT hk.1
     have k2:=aT hk.2
     by_cases na:nvOK a
     ·have nb:¬nvOK b:=fun e=>hv ⟨na,e⟩
      (repeat'((conv=>whnf);first|refine Zg fun _=>?_|refine Zy ?_|refine Zm ?_|fail))
      refine Need.mk ⟨⟨r1,r2⟩,s1,s2⟩ ?_
      (repeat'((conv=>whnf);first|refine Zy ?_|refine Zm ?_|fail))
      refine Need.mk ⟨k1,k2⟩ ?_
      skip
      (conv=>whnf)
      (repeat'(first|exact trivial|rfl|refine And.intro ?_ ?_|fail))
     ·(repeat'((conv=>whnf);first|refine Zg fun _=>?_|refine Zy ?_|refine Zm ?_|fail))
      refine Need.mk ⟨⟨r1,r2⟩,s1,s2⟩ ?_
      (repeat'((conv=>whnf);first|refine Zy ?_|refine Zm ?_|fail))
      refine Need.mk ⟨k1,k2⟩ ?_
      skip
      (conv=>whnf)
      (repeat'(first|exact trivial|rfl|refine And.intro ?_ ?_|fail))
    ·have e:cmpf (valQ a) (valQ b)=(0,4):=by
      unfold fU at hk
      simp only[iW,iX] at hk
      unfold cmpf
      rw[if_pos]
      apply Classical.byContradiction
      intro hn
      apply hk
      simp only[Bool.or_eq_true,not_or,Bool.not_eq_true] at hn
      exact hn
     rw[e]
     by_cases na:nvOK a
     ·have nb:¬nvOK b:=fun e=>hv ⟨na,e⟩
      (repeat'((conv=>whnf);first|refine Zg fun _=>?_|refine Zy ?_|refine Zm ?_|fail))
      refine Need.mk ⟨⟨r1,r2⟩,s1,s2⟩ ?_
      (repeat'((conv=>whnf);first|refine Zy ?_|refine Zm ?_|fail))
      (conv=>whnf)
      (repeat'(first|exact trivial|rfl|refine And.intro ?_ ?_|fail))
     ·(repeat'((conv=>whnf);first|refine Zg fun _=>?_|refine Zy ?_|refine Zm ?_|fail))
      refine Need.mk ⟨⟨r1,r2⟩,s1,s2⟩ ?_
      (repeat'((conv=>whnf);first|refine Zy ?_|refine Zm ?_|fail))
      (conv=>whnf)
      (repeat'(first|exact trivial|rfl|refine And.intro ?_ ?_|fail))
   ·rw[if_neg (by simpa using hca),if_pos hcb]
    by_cases na:nvOK a
    ·by_cases nb:nvOK b
     ·exact absurd ⟨na,nb⟩ hv
     ·(repeat'((conv=>whnf);first|refine Zg fun _=>?_|refine Zy ?_|refine Zm ?_|fail))
      (conv=>whnf)
      (repeat'(first|exact trivial|rfl|refine And.intro ?_ ?_|fail))
    ·(repeat'((conv=>whnf);first|refine Zg fun _=>?_|refine Zy ?_|refine Zm ?_|fail))
     (conv=>whnf)
     (repeat'(first|exact trivial|rfl|refine And.intro ?_ ?_|fail))
  ·rw[if_pos hca]
   by_cases na:nvOK a
   ·exact absurd (iU ⟨(cY na).1,(cY na).2.2.2⟩) hca
   ·(repeat'((conv=>whnf);first|refine Zy ?_|refine Zm ?_|fail))
    (conv=>whnf)
    (repeat'(first|exact trivial|rfl|refine And.intro ?_ ?_|fail))
def c38:Con:=aL 56 true fun args K=>match args with | [.str a,.str b]=>K (.tup [I (cmpQ a b).1,I (cmpQ a b).2]) | _=>False
theorem k38:aH Tryz.prog c38:=by
 refine aE rfl (enters_of Tryz.func56 (by kernel_rfl) rfl) ?_
 intro args K h
 simp only[c38] at h
 split at h
 ·rename_i a b;exact ⟨_,h,aC (Γ:=[c68,c46,c76,c51,c77r]) (by simp[k68,k46,k76,k51,k77r]) Tryz.func56 (by simp[Tryz.ntmps56]) rfl (b38 a b)⟩
 ·exact h.elim
end RB
end

/-
  Part 7: a symbolic executor over the model, contracts of functions and plain laws.
-/
import Derived.Test.YtpbmdklaeigpnaaGreatDoorP6
section
open Go Go.Proofs Go.Eng Go.Shelf IB Go.Lib Go.RowKit
namespace RB
set_option maxRecDepth 10000
set_option linter.unusedVariables false
set_option linter.unusedSimpArgs false
section
variable {ax ay az bx by' bz cx cy cz:Rat}
theorem sz_th {i j:Nat} (hij:i≤j) (h1:Sz i ax) (h2:Sz i ay) (h3:Sz j az) (h4:Sz i bx) (h5:Sz i by') (h6:Sz j bz) (h7:Sz i cx) (h8:Sz i cy) (h9:Sz j cz):
  Sz (8*i+5) (thD ax ay bx by' cx cy)∧Sz (4*i+4*j+5) (upA ax ay az bx by' bz cx cy cz)∧Sz (4*i+4*j+5) (upB ax ay az bx by' bz cx cy cz):=by
 refine ⟨?_,?_,?_⟩
 ·have:=((h4.sub h1).mul (h8.sub h2)).sub ((h5.sub h2).mul (h7.sub h1))
  exact this.mono (by omega)
 ·have:=((h6.sub h3).mul (h8.sub h2)).sub ((h5.sub h2).mul (h9.sub h3))
  exact this.mono (by omega)
 ·have:=((h4.sub h1).mul (h9.sub h3)).sub ((h6.sub h3).mul (h7.sub h1))
  exact this.mono (by omega)
theorem thR_small {i j:Nat} (hij:i≤j) (hs:12*i+4*j+10≤300) (h1:Sz i ax) (h2:Sz i ay) (h3:Sz j az) (h4:Sz i bx) (h5:Sz i by') (h6:Sz j bz) (h7:Sz i cx) (h8:Sz i cy) (h9:Sz j cz):
  thR ax ay az bx by' bz cx cy cz=if thD ax ay bx by' cx cy=0 then ([],[],[],12) else if d36 (thA ax ay az bx by' bz cx cy cz)∧d36 (thB ax ay az bx by' bz cx cy cz)∧d36 (thC ax ay az bx by' bz cx cy cz) then (numS (thA ax ay az bx by' bz cx cy cz),numS (thB ax ay az bx by' bz cx cy cz),numS (thC ax ay az bx by' bz cx cy cz),0) else ([],[],[],4):=by
 obtain ⟨zD,zA,zB⟩:=sz_th hij h1 h2 h3 h4 h5 h6 h7 h8 h9
 by_cases hD:thD ax ay bx by' cx cy=0
 ·rw[thR_zero hD,if_pos hD]
 ·rw[if_neg hD]
  have qA:=divQ_sz zA zD (by omega) (by omega) (by omega) hD
  have qB:=divQ_sz zB zD (by omega) (by omega) (by omega) hD
  by_cases h3:d36 (thA ax ay az bx by' bz cx cy cz)∧d36 (thB ax ay az bx by' bz cx cy cz)∧d36 (thC ax ay az bx by' bz cx cy cz)
  ·rw[if_pos h3,thR_ok hD (by rw[qA]) (by rw[qB]) h3]
  ·rw[if_neg h3,thR_four hD (.inr (.inr h3))]
theorem thR_swap (h1:Sz 12 ax) (h2:Sz 12 ay) (h3:Sz 12 az) (h4:Sz 12 bx) (h5:Sz 12 by') (h6:Sz 12 bz) (h7:Sz 12 cx) (h8:Sz 12 cy) (h9:Sz 12 cz):
  thR bx by' bz ax ay az cx cy cz=thR ax ay az bx by' bz cx cy cz∧thR cx cy cz bx by' bz ax ay az=thR ax ay az bx by' bz cx cy cz∧thR bx by' bz cx cy cz ax ay az=thR ax ay az bx by' bz cx cy cz:=by
 rw[thR_small (Nat.le_refl 12) (by decide) h1 h2 h3 h4 h5 h6 h7 h8 h9,thR_small (Nat.le_refl 12) (by decide) h4 h5 h6 h1 h2 h3 h7 h8 h9,thR_small (Nat.le_refl 12) (by decide) h7 h8 h9 h4 h5 h6 h1 h2 h3,thR_small (Nat.le_refl 12) (by decide) h4 h5 h6 h7 h8 h9 h1 h2 h3]
 by_cases hD:thD ax ay bx by' cx cy=0
 ·have h1:thD bx by' ax ay cx cy=0:=by rw[thD_swap,hD];rfl
  have h2:thD cx cy bx by' ax ay=0:=by rw[thD_ends,hD];rfl
  have h3:thD bx by' cx cy ax ay=0:=by rw[thD_turn,hD]
  rw[if_pos hD,if_pos h1,if_pos h2,if_pos h3]
  exact ⟨rfl,rfl,rfl⟩
 ·have e1:=th_swap (az:=az) (bz:=bz) (cz:=cz) hD
  have e2:=th_ends (az:=az) (bz:=bz) (cz:=cz) hD
  have e3:=th_turn (az:=az) (bz:=bz) (cz:=cz) hD
  have h1:¬thD bx by' ax ay cx cy=0:=by rw[thD_swap];grind
  have h2:¬thD cx cy bx by' ax ay=0:=by rw[thD_ends];grind
  have h3:¬thD bx by' cx cy ax ay=0:=by rw[thD_turn];exact hD
  rw[if_neg hD,if_neg h1,if_neg h2,if_neg h3]
  rw[e1.1,e1.2.1,e1.2.2,e2.1,e2.2.1,e2.2.2,e3.1,e3.2.1,e3.2.2]
  exact ⟨rfl,rfl,rfl⟩
end
theorem bad3_num {p q r:Rat} (hp:Vd p) (hq:Vd q) (hr:Vd r):badP [numS p,numS q,numS r]∨(¬badP [numS p,numS q,numS r]∧d36 p∧d36 q∧d36 r):=by
 by_cases h:badP [numS p,numS q,numS r]
 ·exact .inl h
 ·refine .inr ⟨h,?_⟩
  have h':=bad3_iff.1 h
  have k1:=(chkP_ok h'.1).2
  have k2:=(chkP_ok h'.2.1).2
  have k3:=(chkP_ok h'.2.2).2
  rw[valQ_numS] at k1 k2 k3
  exact ⟨k1,k2,k3⟩
theorem thP_back {ax ay bx by' cx cy P Q R:Rat} (h1:Sz 12 ax) (h2:Sz 12 ay) (h4:Sz 12 bx) (h5:Sz 12 by') (h7:Sz 12 cx) (h8:Sz 12 cy) (hP:Sz 12 P) (hQ:Sz 12 Q) (hR:Sz 12 R) (hD:thD ax ay bx by' cx cy≠0):
  thP (numS ax) (numS ay) (numS (P*ax+Q*ay+R)) (numS bx) (numS by') (numS (P*bx+Q*by'+R)) (numS cx) (numS cy) (numS (P*cx+Q*cy+R))=([],[],[],1)∨
  thP (numS ax) (numS ay) (numS (P*ax+Q*ay+R)) (numS bx) (numS by') (numS (P*bx+Q*by'+R)) (numS cx) (numS cy) (numS (P*cx+Q*cy+R))=(numS P,numS Q,numS R,0):=by
 have v1:Vd (P*ax+Q*ay+R):=(sz_at hP hQ hR h1 h2).vd (by decide)
 have v2:Vd (P*bx+Q*by'+R):=(sz_at hP hQ hR h4 h5).vd (by decide)
 have v3:Vd (P*cx+Q*cy+R):=(sz_at hP hQ hR h7 h8).vd (by decide)
 unfold thP
 rcases bad3_num (h1.vd (by decide)) (h2.vd (by decide)) v1 with b | ⟨b,_,_,d1⟩
 ·exact .inl (if_pos (.inl b))
 rcases bad3_num (h4.vd (by decide)) (h5.vd (by decide)) v2 with b' | ⟨b',_,_,d2⟩
 ·exact .inl (if_pos (.inr (.inl b')))
 rcases bad3_num (h7.vd (by decide)) (h8.vd (by decide)) v3 with b'' | ⟨b'',_,_,d3⟩
 ·exact .inl (if_pos (.inr (.inr b'')))
 refine .inr ?_
 rw[if_neg (by rintro (h | h | h);exact b h;exact b' h;exact b'' h)]
 simp only[valQ_numS]
 rw[thR_small (i:=12) (j:=36) (by decide) (by decide) h1 h2 (d36_sz d1) h4 h5 (d36_sz d2) h7 h8 (d36_sz d3),if_neg hD]
 obtain ⟨eA,eB,eC⟩:=th_uni (P:=P) (Q:=Q) (R:=R) hD rfl rfl rfl
 rw[eA,eB,eC,if_pos ⟨sz_d36 hP (by decide) (by decide),sz_d36 hQ (by decide) (by decide),sz_d36 hR (by decide) (by decide)⟩]
theorem short9 {a b c d e f g h i:List UInt8} (hs:shortL [a,b,c,d,e,f,g,h,i]):(∃p q r,(a=numS p∧b=numS q∧c=numS r)∧Sz 12 p∧Sz 12 q∧Sz 12 r)∧(∃p q r,(d=numS p∧e=numS q∧f=numS r)∧Sz 12 p∧Sz 12 q∧Sz 12 r)∧(∃p q r,(g=numS p∧h=numS q∧i=numS r)∧Sz 12 p∧Sz 12 q∧Sz 12 r):=
 ⟨short3 fun x hx=>hs x (by simp at hx ⊢;rcases hx with h | h | h<;>simp[h]),short3 fun x hx=>hs x (by simp at hx ⊢;rcases hx with h | h | h<;>simp[h]),short3 fun x hx=>hs x (by simp at hx ⊢;rcases hx with h | h | h<;>simp[h])⟩
set_option maxRecDepth 100000 in
set_option maxHeartbeats 16000000 in
theorem b1004 (ax ay az bx by' bz cx cy cz a b c:List UInt8):body Tryz.prog [c1018,c1017,c1012,c1013,c1019] {} true Tryz.f4 [.agg [S ax,S ay,S az],.agg [S bx,S by',S bz],.agg [S cx,S cy,S cz],.agg [S a,S b,S c]] (.val (.bool true)):=by
 by_cases h1:shortL [ax,ay,az,bx,by',bz,cx,cy,cz]
 ·by_cases h2:shortL [a,b,c]
  ·obtain ⟨⟨ax,ay,az,⟨rfl,rfl,rfl⟩,z1,z2,z3⟩,⟨bx,by',bz,⟨rfl,rfl,rfl⟩,z4,z5,z6⟩,⟨cx,cy,cz,⟨rfl,rfl,rfl⟩,z7,z8,z9⟩⟩:=short9 h1
   obtain ⟨p,q,r,⟨rfl,rfl,rfl⟩,zp,zq,zr⟩:=short3 h2
   have t0:=thP_num z1.up' z2.up' z3.up' z4.up' z5.up' z6.up' z7.up' z8.up' z9.up'
   obtain ⟨s1,s2,s3⟩:=thR_swap z1 z2 z3 z4 z5 z6 z7 z8 z9
   have t1:thP (numS bx) (numS by') (numS bz) (numS ax) (numS ay) (numS az) (numS cx) (numS cy) (numS cz)=thP (numS ax) (numS ay) (numS az) (numS bx) (numS by') (numS bz) (numS cx) (numS cy) (numS cz):=by rw[t0,← s1];exact thP_num z4.up' z5.up' z6.up' z1.up' z2.up' z3.up' z7.up' z8.up' z9.up'
   have t2:thP (numS cx) (numS cy) (numS cz) (numS bx) (numS by') (numS bz) (numS ax) (numS ay) (numS az)=thP (numS ax) (numS ay) (numS az) (numS bx) (numS by') (numS bz) (numS cx) (numS cy) (numS cz):=by rw[t0,← s2];exact thP_num z7.up' z8.up' z9.up' z4.up' z5.up' z6.up' z1.up' z2.up' z3.up'
   have t3:thP (numS bx) (numS by') (numS bz) (numS cx) (numS cy) (numS cz) (numS ax) (numS ay) (numS az)=thP (numS ax) (numS ay) (numS az) (numS bx) (numS by') (numS bz) (numS cx) (numS cy) (numS cz):=by rw[t0,← s3];exact thP_num z4.up' z5.up' z6.up' z7.up' z8.up' z9.up' z1.up' z2.up' z3.up'
   have u1:(thP (numS bx) (numS by') (numS bz) (numS ax) (numS ay) (numS az) (numS cx) (numS cy) (numS cz)).2.2.2=(thP (numS ax) (numS ay) (numS az) (numS bx) (numS by') (numS bz) (numS cx) (numS cy) (numS cz)).2.2.2:=by rw[t1]
   have v1: [(thP (numS bx) (numS by') (numS bz) (numS ax) (numS ay) (numS az) (numS cx) (numS cy) (numS cz)).1,(thP (numS bx) (numS by') (numS bz) (numS ax) (numS ay) (numS az) (numS cx) (numS cy) (numS cz)).2.1,(thP (numS bx) (numS by') (numS bz) (numS ax) (numS ay) (numS az) (numS cx) (numS cy) (numS cz)).2.2.1]= [(thP (numS ax) (numS ay) (numS az) (numS bx) (numS by') (numS bz) (numS cx) (numS cy) (numS cz)).1,(thP (numS ax) (numS ay) (numS az) (numS bx) (numS by') (numS bz) (numS cx) (numS cy) (numS cz)).2.1,(thP (numS ax) (numS ay) (numS az) (numS bx) (numS by') (numS bz) (numS cx) (numS cy) (numS cz)).2.2.1]:=by rw[t1]
   have u2:(thP (numS cx) (numS cy) (numS cz) (numS bx) (numS by') (numS bz) (numS ax) (numS ay) (numS az)).2.2.2=(thP (numS ax) (numS ay) (numS az) (numS bx) (numS by') (numS bz) (numS cx) (numS cy) (numS cz)).2.2.2:=by rw[t2]
   have v2: [(thP (numS cx) (numS cy) (numS cz) (numS bx) (numS by') (numS bz) (numS ax) (numS ay) (numS az)).1,(thP (numS cx) (numS cy) (numS cz) (numS bx) (numS by') (numS bz) (numS ax) (numS ay) (numS az)).2.1,(thP (numS cx) (numS cy) (numS cz) (numS bx) (numS by') (numS bz) (numS ax) (numS ay) (numS az)).2.2.1]= [(thP (numS ax) (numS ay) (numS az) (numS bx) (numS by') (numS bz) (numS cx) (numS cy) (numS cz)).1,(thP (numS ax) (numS ay) (numS az) (numS bx) (numS by') (numS bz) (numS cx) (numS cy) (numS cz)).2.1,(thP (numS ax) (numS ay) (numS az) (numS bx) (numS by') (numS bz) (numS cx) (numS cy) (numS cz)).2.2.1]:=by rw[t2]
   have u3:(thP (numS bx) (numS by') (numS bz) (numS cx) (numS cy) (numS cz) (numS ax) (numS ay) (numS az)).2.2.2=(thP (numS ax) (numS ay) (numS az) (numS bx) (numS by') (numS bz) (numS cx) (numS cy) (numS cz)).2.2.2:=by rw[t3]
   have v3: [(thP (numS bx) (numS by') (numS bz) (numS cx) (numS cy) (numS cz) (numS ax) (numS ay) (numS az)).1,(thP (numS bx) (numS by') (numS bz) (numS cx) (numS cy) (numS cz) (numS ax) (numS ay) (numS az)).2.1,(thP (numS bx) (numS by') (numS bz) (numS cx) (numS cy) (numS cz) (numS ax) (numS ay) (numS az)).2.2.1]= [(thP (numS ax) (numS ay) (numS az) (numS bx) (numS by') (numS bz) (numS cx) (numS cy) (numS cz)).1,(thP (numS ax) (numS ay) (numS az) (numS bx) (numS by') (numS bz) (numS cx) (numS cy) (numS cz)).2.1,(thP (numS ax) (numS ay) (numS az) (numS bx) (numS by') (numS bz) (numS cx) (numS cy) (numS cz)).2.2.1]:=by rw[t3]
   have y1:=atP_num zp.up' zq.up' zr.up' z1.up' z2.up'
   have y2:=atP_num zp.up' zq.up' zr.up' z4.up' z5.up'
   have y3:=atP_num zp.up' zq.up' zr.up' z7.up' z8.up'
   have w1:=congrArg Prod.snd y1
   have w2:=congrArg Prod.snd y2
   have w3:=congrArg Prod.snd y3
   dsimp only at w1 w2 w3
   have hS:=thR_small (Nat.le_refl 12) (by decide) z1 z2 z3 z4 z5 z6 z7 z8 z9
   rw[← t0] at hS
   by_cases hD:thD ax ay bx by' cx cy=0
   ·rw[if_pos hD] at hS
    have g1:(thP (numS ax) (numS ay) (numS az) (numS bx) (numS by') (numS bz) (numS cx) (numS cy) (numS cz)).2.2.2=12:=by rw[hS]
    (repeat'((conv=>whnf);first|refine Zn ?_|refine Z0 ?_|refine Z1 ?_|refine Z2 ?_|refine Zl ?_|refine Zy ?_|refine Zm ?_|fail))
    (conv=>whnf)
    repeat' (first | (refine Br.mkY (by simp only[List.length_cons,List.length_nil];omega) ?_;skip;(conv=>whnf)) | (refine Br.mkN (by simp only[List.length_cons,List.length_nil];omega) ?_;skip;(conv=>whnf)) | (refine Need.mk ⟨⟨by decide,by decide,by decide,trivial⟩,by kernel_rfl⟩ ?_;(repeat'((conv=>whnf);first|refine Zn ?_|refine Z0 ?_|refine Z1 ?_|refine Z2 ?_|refine Zy ?_|refine Zm ?_|fail));(conv=>whnf)) | fail)
    skip
   rw[if_neg hD] at hS
   have hB:=thP_back z1 z2 z4 z5 z7 z8 zp zq zr hD
   have r1:(atP (numS p) (numS q) (numS r) (numS ax) (numS ay)).1=numS (p*ax+q*ay+r):=by rw[y1]
   have r2:(atP (numS p) (numS q) (numS r) (numS bx) (numS by')).1=numS (p*bx+q*by'+r):=by rw[y2]
   have r3:(atP (numS p) (numS q) (numS r) (numS cx) (numS cy)).1=numS (p*cx+q*cy+r):=by rw[y3]
   rw[← r1,← r2,← r3] at hB
   by_cases h36:d36 (thA ax ay az bx by' bz cx cy cz)∧d36 (thB ax ay az bx by' bz cx cy cz)∧d36 (thC ax ay az bx by' bz cx cy cz)
   ·rw[if_pos h36] at hS
    have g1:(thP (numS ax) (numS ay) (numS az) (numS bx) (numS by') (numS bz) (numS cx) (numS cy) (numS cz)).2.2.2=0:=by rw[hS]
    have a0:atP (thP (numS ax) (numS ay) (numS az) (numS bx) (numS by') (numS bz) (numS cx) (numS cy) (numS cz)).1 (thP (numS ax) (numS ay) (numS az) (numS bx) (numS by') (numS bz) (numS cx) (numS cy) (numS cz)).2.1 (thP (numS ax) (numS ay) (numS az) (numS bx) (numS by') (numS bz) (numS cx) (numS cy) (numS cz)).2.2.1 (numS ax) (numS ay)=(numS az,0):=by rw[hS];rw[atP_num (d36_sz h36.1) (d36_sz h36.2.1) (d36_sz h36.2.2) z1.up' z2.up',(th_on hD).1]
    have b0:=congrArg Prod.snd a0
    have c0:=congrArg Prod.fst a0
    have a1:atP (thP (numS ax) (numS ay) (numS az) (numS bx) (numS by') (numS bz) (numS cx) (numS cy) (numS cz)).1 (thP (numS ax) (numS ay) (numS az) (numS bx) (numS by') (numS bz) (numS cx) (numS cy) (numS cz)).2.1 (thP (numS ax) (numS ay) (numS az) (numS bx) (numS by') (numS bz) (numS cx) (numS cy) (numS cz)).2.2.1 (numS bx) (numS by')=(numS bz,0):=by rw[hS];rw[atP_num (d36_sz h36.1) (d36_sz h36.2.1) (d36_sz h36.2.2) z4.up' z5.up',(th_on hD).2.1]
    have b1:=congrArg Prod.snd a1
    have c1:=congrArg Prod.fst a1
    have a2:atP (thP (numS ax) (numS ay) (numS az) (numS bx) (numS by') (numS bz) (numS cx) (numS cy) (numS cz)).1 (thP (numS ax) (numS ay) (numS az) (numS bx) (numS by') (numS bz) (numS cx) (numS cy) (numS cz)).2.1 (thP (numS ax) (numS ay) (numS az) (numS bx) (numS by') (numS bz) (numS cx) (numS cy) (numS cz)).2.2.1 (numS cx) (numS cy)=(numS cz,0):=by rw[hS];rw[atP_num (d36_sz h36.1) (d36_sz h36.2.1) (d36_sz h36.2.2) z7.up' z8.up',(th_on hD).2.2]
    have b2:=congrArg Prod.snd a2
    have c2:=congrArg Prod.fst a2
    dsimp only at b0 b1 b2 c0 c1 c2
    rcases hB with hB | hB
    ·have k1:(thP (numS ax) (numS ay) (atP (numS p) (numS q) (numS r) (numS ax) (numS ay)).1 (numS bx) (numS by') (atP (numS p) (numS q) (numS r) (numS bx) (numS by')).1 (numS cx) (numS cy) (atP (numS p) (numS q) (numS r) (numS cx) (numS cy)).1).2.2.2=1:=by rw[hB]
     have kn:¬(thP (numS ax) (numS ay) (atP (numS p) (numS q) (numS r) (numS ax) (numS ay)).1 (numS bx) (numS by') (atP (numS p) (numS q) (numS r) (numS bx) (numS by')).1 (numS cx) (numS cy) (atP (numS p) (numS q) (numS r) (numS cx) (numS cy)).1).2.2.2=0:=by rw[k1];decide
     (repeat'((conv=>whnf);first|refine Zg fun _=>?_|refine Zl ?_|refine Zy ?_|refine Zm ?_|fail))
     (conv=>whnf)
     repeat' (first | (refine Br.mkY (by simp only[List.length_cons,List.length_nil];omega) ?_;(repeat'((conv=>whnf);first|refine Zn ?_|refine Z0 ?_|refine Z1 ?_|refine Z2 ?_|refine Zl ?_|refine Zm ?_|fail));(conv=>whnf)) | (refine Br.mkN (by simp only[List.length_cons,List.length_nil];omega) ?_;(repeat'((conv=>whnf);first|refine Zn ?_|refine Z0 ?_|refine Z1 ?_|refine Z2 ?_|(apply Pin.mk;apply Exists.intro)|apply Pinned.mk rfl rfl|exact Zf|refine Zc ?_ ?_|refine Zy ?_|refine Zm ?_|fail));(conv=>whnf)) | (refine Need.mk ⟨⟨by decide,by decide,by decide,trivial⟩,by kernel_rfl⟩ ?_;(repeat'((conv=>whnf);first|refine Zg fun _=>?_|refine Zn ?_|refine Z0 ?_|refine Z1 ?_|refine Z2 ?_|refine Zl ?_|refine Zy ?_|refine Zm ?_|fail));(conv=>whnf)) | fail)
    ·have k1:(thP (numS ax) (numS ay) (atP (numS p) (numS q) (numS r) (numS ax) (numS ay)).1 (numS bx) (numS by') (atP (numS p) (numS q) (numS r) (numS bx) (numS by')).1 (numS cx) (numS cy) (atP (numS p) (numS q) (numS r) (numS cx) (numS cy)).1).2.2.2=0:=by rw[hB]
     have k2: [(thP (numS ax) (numS ay) (atP (numS p) (numS q) (numS r) (numS ax) (numS ay)).1 (numS bx) (numS by') (atP (numS p) (numS q) (numS r) (numS bx) (numS by')).1 (numS cx) (numS cy) (atP (numS p) (numS q) (numS r) (numS cx) (numS cy)).1).1,(thP (numS ax) (numS ay) (atP (numS p) (numS q) (numS r) (numS ax) (numS ay)).1 (numS bx) (numS by') (atP (numS p) (numS q) (numS r) (numS bx) (numS by')).1 (numS cx) (numS cy) (atP (numS p) (numS q) (numS r) (numS cx) (numS cy)).1).2.1,(thP (numS ax) (numS ay) (atP (numS p) (numS q) (numS r) (numS ax) (numS ay)).1 (numS bx) (numS by') (atP (numS p) (numS q) (numS r) (numS bx) (numS by')).1 (numS cx) (numS cy) (atP (numS p) (numS q) (numS r) (numS cx) (numS cy)).1).2.2.1]= [numS p,numS q,numS r]:=by rw[hB]
     (repeat'((conv=>whnf);first|refine Zg fun _=>?_|refine Zl ?_|refine Zy ?_|refine Zm ?_|fail))
     (conv=>whnf)
     repeat' (first | (refine Br.mkY (by simp only[List.length_cons,List.length_nil];omega) ?_;(repeat'((conv=>whnf);first|refine Zn ?_|refine Z0 ?_|refine Z1 ?_|refine Z2 ?_|refine Zl ?_|refine Zm ?_|fail));(conv=>whnf)) | (refine Br.mkN (by simp only[List.length_cons,List.length_nil];omega) ?_;(repeat'((conv=>whnf);first|refine Zn ?_|refine Z0 ?_|refine Z1 ?_|refine Z2 ?_|(apply Pin.mk;apply Exists.intro)|apply Pinned.mk rfl rfl|exact Zf|refine Zc ?_ ?_|refine Zy ?_|refine Zm ?_|fail));(conv=>whnf)) | (refine Need.mk ⟨⟨by decide,by decide,by decide,trivial⟩,by kernel_rfl⟩ ?_;(repeat'((conv=>whnf);first|refine Zg fun _=>?_|refine Zn ?_|refine Z0 ?_|refine Z1 ?_|refine Z2 ?_|refine Zl ?_|refine Zy ?_|refine Zm ?_|fail));(conv=>whnf)) | fail)
   ·rw[if_neg h36] at hS
    have g1:(thP (numS ax) (numS ay) (numS az) (numS bx) (numS by') (numS bz) (numS cx) (numS cy) (numS cz)).2.2.2=4:=by rw[hS]
    rcases hB with hB | hB
    ·have k1:(thP (numS ax) (numS ay) (atP (numS p) (numS q) (numS r) (numS ax) (numS ay)).1 (numS bx) (numS by') (atP (numS p) (numS q) (numS r) (numS bx) (numS by')).1 (numS cx) (numS cy) (atP (numS p) (numS q) (numS r) (numS cx) (numS cy)).1).2.2.2=1:=by rw[hB]
     have kn:¬(thP (numS ax) (numS ay) (atP (numS p) (numS q) (numS r) (numS ax) (numS ay)).1 (numS bx) (numS by') (atP (numS p) (numS q) (numS r) (numS bx) (numS by')).1 (numS cx) (numS cy) (atP (numS p) (numS q) (numS r) (numS cx) (numS cy)).1).2.2.2=0:=by rw[k1];decide
     (repeat'((conv=>whnf);first|refine Zn ?_|refine Z0 ?_|refine Z1 ?_|refine Z2 ?_|refine Zl ?_|refine Zy ?_|refine Zm ?_|fail))
     (conv=>whnf)
     repeat' (first | (refine Br.mkY (by simp only[List.length_cons,List.length_nil];omega) ?_;(repeat'((conv=>whnf);first|refine Zn ?_|refine Z0 ?_|refine Z1 ?_|refine Z2 ?_|refine Zl ?_|refine Zm ?_|fail));(conv=>whnf)) | (refine Br.mkN (by simp only[List.length_cons,List.length_nil];omega) ?_;(repeat'((conv=>whnf);first|refine Zn ?_|refine Z0 ?_|refine Z1 ?_|refine Z2 ?_|(apply Pin.mk;apply Exists.intro)|apply Pinned.mk rfl rfl|exact Zf|refine Zc ?_ ?_|refine Zy ?_|refine Zm ?_|fail));(conv=>whnf)) | (refine Need.mk ⟨⟨by decide,by decide,by decide,trivial⟩,by kernel_rfl⟩ ?_;(repeat'((conv=>whnf);first|refine Zg fun _=>?_|refine Zn ?_|refine Z0 ?_|refine Z1 ?_|refine Z2 ?_|refine Zl ?_|refine Zy ?_|refine Zm ?_|fail));(conv=>whnf)) | fail)
    ·have k1:(thP (numS ax) (numS ay) (atP (numS p) (numS q) (numS r) (numS ax) (numS ay)).1 (numS bx) (numS by') (atP (numS p) (numS q) (numS r) (numS bx) (numS by')).1 (numS cx) (numS cy) (atP (numS p) (numS q) (numS r) (numS cx) (numS cy)).1).2.2.2=0:=by rw[hB]
     have k2: [(thP (numS ax) (numS ay) (atP (numS p) (numS q) (numS r) (numS ax) (numS ay)).1 (numS bx) (numS by') (atP (numS p) (numS q) (numS r) (numS bx) (numS by')).1 (numS cx) (numS cy) (atP (numS p) (numS q) (numS r) (numS cx) (numS cy)).1).1,(thP (numS ax) (numS ay) (atP (numS p) (numS q) (numS r) (numS ax) (numS ay)).1 (numS bx) (numS by') (atP (numS p) (numS q) (numS r) (numS bx) (numS by')).1 (numS cx) (numS cy) (atP (numS p) (numS q) (numS r) (numS cx) (numS cy)).1).2.1,(thP (numS ax) (numS ay) (atP (numS p) (numS q) (numS r) (numS ax) (numS ay)).1 (numS bx) (numS by') (atP (numS p) (numS q) (numS r) (numS bx) (numS by')).1 (numS cx) (numS cy) (atP (numS p) (numS q) (numS r) (numS cx) (numS cy)).1).2.2.1]= [numS p,numS q,numS r]:=by rw[hB]
     (repeat'((conv=>whnf);first|refine Zn ?_|refine Z0 ?_|refine Z1 ?_|refine Z2 ?_|refine Zl ?_|refine Zy ?_|refine Zm ?_|fail))
     (conv=>whnf)
     repeat' (first | (refine Br.mkY (by simp only[List.length_cons,List.length_nil];omega) ?_;(repeat'((conv=>whnf);first|refine Zn ?_|refine Z0 ?_|refine Z1 ?_|refine Z2 ?_|refine Zl ?_|refine Zm ?_|fail));(conv=>whnf)) | (refine Br.mkN (by simp only[List.length_cons,List.length_nil];omega) ?_;(repeat'((conv=>whnf);first|refine Zn ?_|refine Z0 ?_|refine Z1 ?_|refine Z2 ?_|(apply Pin.mk;apply Exists.intro)|apply Pinned.mk rfl rfl|exact Zf|refine Zc ?_ ?_|refine Zy ?_|fail));(conv=>whnf)) | (refine Need.mk ⟨⟨by decide,by decide,by decide,trivial⟩,by kernel_rfl⟩ ?_;(repeat'((conv=>whnf);first|refine Zg fun _=>?_|refine Zn ?_|refine Z0 ?_|refine Z1 ?_|refine Z2 ?_|refine Zl ?_|refine Zy ?_|refine Zm ?_|fail));(conv=>whnf)) | fail)
  ·(repeat'((conv=>whnf);first|refine Zl ?_|refine Zy ?_|refine Zm ?_|fail))
   (conv=>whnf)
   skip
 ·(repeat'((conv=>whnf);first|refine Zl ?_|refine Zy ?_|fail))
  (conv=>whnf)
  skip
theorem t1004 (ax ay az bx by' bz cx cy cz a b c:List UInt8):Tri Tryz.prog true 4 [.agg [S ax,S ay,S az],.agg [S bx,S by',S bz],.agg [S cx,S cy,S cz],.agg [S a,S b,S c]] (.val (.bool true)):=
 tri_of_body (Γ:=[c1018,c1017,c1012,c1013,c1019]) (by simp[k1018,k1017,k1012,k1013,k1019]) Tryz.func4 (by simp[Tryz.ntmps4]) rfl (b1004 ax ay az bx by' bz cx cy cz a b c)
end RB
end
